/- The walk of the law of whole numbers: plain, signs, sums, differences. -/
import Derived.Test.YtdkfnbpdbpmibaaLwB
namespace Go.Proofs.Ytdkfnbpdbpmibaa
open Go.RowKit

/-- The four boxes of the law: two arguments, two numbers of the reference. -/
def Cells4 (g h : Nat) (A A' X Y : Option Addr) (s s' x y : Bool) (n n' c c' nx ny cx cy : Nat) (w0 : Nat) (w : World) : Prop :=
  w.cell? ⟨w0, 0, none⟩ = some (.bool s) ∧ w.cell? ⟨w0, 1, none⟩ = some (.slice A n c) ∧ w.cell? ⟨w0 + 1, 0, none⟩ = some (.bool s') ∧ w.cell? ⟨w0 + 1, 1, none⟩ = some (.slice A' n' c') ∧
  w.cell? ⟨g, 0, none⟩ = some (.bool x) ∧ w.cell? ⟨g, 1, none⟩ = some (.slice X nx cx) ∧ w.cell? ⟨h, 0, none⟩ = some (.bool y) ∧ w.cell? ⟨h, 1, none⟩ = some (.slice Y ny cy)
theorem four_rows {w : World} {g0 g1 g2 g3 : Nat} {e e' : TypeId} {v0 u0 v1 u1 v2 u2 v3 u3 : Value} (h0 : Row w g0 e #[v0, u0]) (h1 : Row w g1 e #[v1, u1]) (h2 : Row w g2 e' #[v2, u2]) (h3 : Row w g3 e' #[v3, u3]) :
    w.cell? ⟨g0, 0, none⟩ = some v0 ∧ w.cell? ⟨g0, 1, none⟩ = some u0 ∧ w.cell? ⟨g1, 0, none⟩ = some v1 ∧ w.cell? ⟨g1, 1, none⟩ = some u1 ∧ w.cell? ⟨g2, 0, none⟩ = some v2 ∧ w.cell? ⟨g2, 1, none⟩ = some u2 ∧ w.cell? ⟨g3, 0, none⟩ = some v3 ∧ w.cell? ⟨g3, 1, none⟩ = some u3 :=
  ⟨(box_facts h0).1, (box_facts h0).2.1, (box_facts h1).1, (box_facts h1).2.1, (box_facts h2).1, (box_facts h2).2.1, (box_facts h3).1, (box_facts h3).2.1⟩

set_option maxRecDepth 100000 in
set_option maxHeartbeats 12000000 in
theorem does_any (s s' : Bool) (A A' : Option Addr) (n n' : Nat) (xs ys : List Int) (c c' : Nat) (v : Int) (w : World) (hr : RdS w .u64 A n xs) (hr' : RdS w .u64 A' n' ys) (hc : n ≤ c) (hc' : n' ≤ c')
    (hx : Dg B64 xs) (hy : Dg B64 ys) (hv : -9223372036854775808 ≤ v) (hv2 : v ≤ 9223372036854775807) :
    Calls Try.prog 3 #[.agg #[.bool s, .slice A n c], .agg #[.bool s', .slice A' n' c'], .int .i64 v] w fun e w' => e = .returned (.bool true) ∧ Below w.heap.size w w' := by
  obtain ⟨ra, rb, hw⟩ := new2 w 24 24 #[.bool s, .slice A n c] #[.bool s', .slice A' n' c']
  have hsz : w.heap.size + 2 ≤ ((w.alloc (.cells #[.bool s, .slice A n c] 24)).alloc (.cells #[.bool s', .slice A' n' c'] 24)).heap.size := by simp
  by_cases h1 : 60 < n
  · go_enter Try.func3, Try.ntmps3
    go_wp2_with fail
    generalize (w.alloc (.cells #[.bool s, .slice A n c] 24)).alloc (.cells #[.bool s', .slice A' n' c'] 24) = W at *
    refine (awake_any W).mono ?_
    rintro e w1 ⟨rfl, b1⟩
    have ha1 := box_facts (ra.belowR b1)
    have hb1 := box_facts (rb.belowR b1)
    go_wp2_with fail
    go_ret
    exact ⟨rfl, hw.trans (b1.mono hw.size)⟩
  · by_cases h2 : 60 < n'
    · go_enter Try.func3, Try.ntmps3
      go_wp2_with fail
      generalize (w.alloc (.cells #[.bool s, .slice A n c] 24)).alloc (.cells #[.bool s', .slice A' n' c'] 24) = W at *
      refine (awake_any W).mono ?_
      rintro e w1 ⟨rfl, b1⟩
      have ha1 := box_facts (ra.belowR b1)
      have hb1 := box_facts (rb.belowR b1)
      go_wp2_with fail
      go_ret
      exact ⟨rfl, hw.trans (b1.mono hw.size)⟩
    · go_enter Try.func3, Try.ntmps3
      go_wp2_with fail
      generalize (w.alloc (.cells #[.bool s, .slice A n c] 24)).alloc (.cells #[.bool s', .slice A' n' c'] 24) = W at *
      refine (awake_any W).mono ?_
      rintro e w1 ⟨rfl, b1⟩
      have ra1 := ra.belowR b1
      have rb1 := rb.belowR b1
      have ha1 := box_facts ra1
      have hb1 := box_facts rb1
      have i1 : IV w1 (.agg #[.bool s, .slice A n c]) (zi s xs) 60 := ⟨s, xs, A, c, by rw [hr.len], by rw [hr.len]; exact hc, by rw [hr.len]; exact (hr.below hw).below b1, hx, rfl, by rw [hr.len]; omega⟩
      have i2 : IV w1 (.agg #[.bool s', .slice A' n' c']) (zi s' ys) 60 := ⟨s', ys, A', c', by rw [hr'.len], by rw [hr'.len]; exact hc', by rw [hr'.len]; exact (hr'.below hw).below b1, hy, rfl, by rw [hr'.len]; omega⟩
      have B1 := Lib.hid (hw.trans (b1.mono hw.size))
      have s1 := b1.size
      clear hr hr' hx hy hc hc' ra rb hw b1
      go_upto_region 5 with fail
      go_cut [7, 8] (fun v7 v8 wx => ∃ (g h : Nat) (tx ty : Bool) (Bx By : Option Addr) (nx ny dx dy : Nat), v7 = .pointer (some ⟨g, 0, none⟩) ∧ v8 = .pointer (some ⟨h, 0, none⟩) ∧
        Row wx g 28 #[.bool tx, .slice Bx nx dx] ∧ Row wx h 28 #[.bool ty, .slice By ny dy] ∧
        DV wx (.agg #[.bool tx, .slice Bx nx dx]) (zi s xs) ∧ DV wx (.agg #[.bool ty, .slice By ny dy]) (zi s' ys) ∧ Below w1.heap.size w1 wx)
      case first =>
        have i1d := i1.below (dr_ w1)
        have i2d := i2.below (dr_ w1)
        have rad := ra1.belowR (dr_ w1)
        have rbd := rb1.belowR (dr_ w1)
        have hcd := two_boxes rad rbd
        rename_i K0 aK0 J0 K1 aJ0 aK1
        clear ha1 hb1 h1 h2 aK0
        go_region_held3 (fun wx => wx.cell? ⟨w.heap.size, 0, none⟩ = some (.bool s) ∧ wx.cell? ⟨w.heap.size, 1, none⟩ = some (.slice A n c) ∧ wx.cell? ⟨w.heap.size + 1, 0, none⟩ = some (.bool s') ∧ wx.cell? ⟨w.heap.size + 1, 1, none⟩ = some (.slice A' n' c')) (first | with_reducible exact hcd | (with_reducible refine two_boxes (e := 24) (e' := 24) ?_ ?_ <;> repeat (first | with_reducible exact rad | with_reducible exact rbd | with_reducible exact ra1 | with_reducible exact rb1 | with_reducible refine Row.allocR ?_ _ | with_reducible refine Row.belowR ?_ b3 | with_reducible refine Row.belowR ?_ b2 | with_reducible refine Row.drew ?_ | with_reducible refine Row.sets ?_ _ _ (by simp; omega)))) (first | (go_at_call_of 7 (Value.agg #[Value.bool s, Value.slice A n c]); refine (fromV (z := zi s xs) (k := 60) (by repeat (first | with_reducible exact i1d | with_reducible exact i1 | with_reducible refine IV.below ?_ (al_ _ _) | with_reducible refine IV.below ?_ (dr_ _))) (by omega)).mono ?_; rintro e w2 ⟨vx, rfl, dx, b2⟩; obtain ⟨tx, Bx, nx, cx, rfl⟩ := dx.shape; have l2 := b2.size; (first | (have g0 : Row w2 (w1.heap.size) 28 #[.bool false, .slice none 0 0] := Row.belowR (Row.newE rfl) b2; have hg0 := box_facts g0) | (have g0 : Row w2 (w1.heap.size) 28 #[.bool false, .slice none 0 0] := Row.belowR (Row.drew (Row.newE rfl)) b2; have hg0 := box_facts g0) | (have g0 : Row w2 (w1.heap.size) 28 #[.bool false, .slice none 0 0] := Row.belowR (Row.allocR (Row.newE rfl) _) b2; have hg0 := box_facts g0) | (have g0 : Row w2 (w1.heap.size) 28 #[.bool false, .slice none 0 0] := Row.belowR (Row.drew (Row.allocR (Row.newE rfl) _)) b2; have hg0 := box_facts g0) | skip); (first | (have g1 : Row w2 (w1.heap.size + 1) 28 #[.bool false, .slice none 0 0] := Row.belowR (Row.newN _) b2; have hg1 := box_facts g1) | (have g1 : Row w2 (w1.heap.size + 1) 28 #[.bool false, .slice none 0 0] := Row.belowR (Row.drew (Row.newN _)) b2; have hg1 := box_facts g1) | skip); (try simp at l2); (first | (have n12 : w1.heap.size ≠ w2.heap.size := by omega) | skip); (first | (have n12s : w1.heap.size + 1 ≠ w2.heap.size := by omega) | skip)) | (go_at_call_of 7 (Value.agg #[Value.bool s', Value.slice A' n' c']); refine (fromV (z := zi s' ys) (k := 60) (by repeat (first | with_reducible exact i2d | with_reducible exact i2 | with_reducible refine IV.below ?_ b2 | with_reducible refine IV.below ?_ (al_ _ _) | with_reducible refine IV.below ?_ (dr_ _))) (by omega)).mono ?_; rintro e w3 ⟨vy, rfl, dy, b3⟩; obtain ⟨ty, By, ny, cy, rfl⟩ := dy.shape; have l3 := b3.size; (first | (have k0 : Row w3 (w1.heap.size) 28 #[.bool false, .slice none 0 0] := Row.belowR g0 b3; have hk0 := box_facts k0; have hk0' := fun o => box_facts (Row.allocR k0 o)) | (have k0 : Row w3 (w1.heap.size) 28 #[.bool false, .slice none 0 0] := Row.belowR (Row.allocR g0 _) b3; have hk0 := box_facts k0; have hk0' := fun o => box_facts (Row.allocR k0 o)) | skip); (first | (have k1 : Row w3 (w1.heap.size + 1) 28 #[.bool false, .slice none 0 0] := Row.belowR g1 b3; have hk1 := box_facts k1) | skip); (first | (have k2 : Row w3 (w2.heap.size) 28 #[.bool false, .slice none 0 0] := Row.belowR (Row.newE rfl) b3; have hk2 := box_facts k2; have hk2' := fun o => box_facts (Row.allocR k2 o)) | (have k2 : Row w3 (w2.heap.size) 28 #[.bool false, .slice none 0 0] := Row.belowR (Row.allocR (Row.newE rfl) _) b3; have hk2 := box_facts k2; have hk2' := fun o => box_facts (Row.allocR k2 o)) | skip); (first | (have k3 : Row w3 (w2.heap.size + 1) 28 #[.bool false, .slice none 0 0] := Row.belowR (Row.newN _) b3; have hk3 := box_facts k3) | skip); (try simp at l3); (first | (have n13 : w1.heap.size ≠ w3.heap.size := by omega) | skip); (first | (have n23 : w2.heap.size ≠ w3.heap.size := by omega) | skip)))
        all_goals
          go_wp2_with fail
          go_meet
          refine ⟨_, _, tx, ty, Bx, By, nx, ny, cx, cy, rfl, rfl, ?_, ?_, ?_, ?_, ?_⟩
          · (repeat (first | with_reducible exact k0 | with_reducible exact k1 | with_reducible exact k2 | with_reducible exact k3 | with_reducible exact Row.newE rfl | with_reducible exact Row.newN _ | with_reducible refine Row.allocR ?_ _ | with_reducible refine box_set (v0 := .bool false) (v1 := .slice none 0 0) ?_ _ _ | with_reducible refine Row.sets ?_ _ _ (by omega)))
          · (repeat (first | with_reducible exact k0 | with_reducible exact k1 | with_reducible exact k2 | with_reducible exact k3 | with_reducible exact Row.newE rfl | with_reducible exact Row.newN _ | with_reducible refine Row.allocR ?_ _ | with_reducible refine box_set (v0 := .bool false) (v1 := .slice none 0 0) ?_ _ _ | with_reducible refine Row.sets ?_ _ _ (by omega)))
          · repeat (first | with_reducible exact dx | with_reducible refine DV.below ?_ b3 | with_reducible refine DV.below ?_ (al_ _ _) | with_reducible refine DV.sets (e := 28) ?_ (by repeat (first | with_reducible exact k0 | with_reducible exact k1 | with_reducible exact k2 | with_reducible exact k3 | with_reducible exact Row.newE rfl | with_reducible exact Row.newN _ | with_reducible refine Row.allocR ?_ _ | with_reducible refine box_set (v0 := .bool false) (v1 := .slice none 0 0) ?_ _ _ | with_reducible refine Row.sets ?_ _ _ (by omega))) _ _)
          · repeat (first | with_reducible exact dy | with_reducible refine DV.below ?_ (al_ _ _) | with_reducible refine DV.sets (e := 28) ?_ (by repeat (first | with_reducible exact k0 | with_reducible exact k1 | with_reducible exact k2 | with_reducible exact k3 | with_reducible exact Row.newE rfl | with_reducible exact Row.newN _ | with_reducible refine Row.allocR ?_ _ | with_reducible refine box_set (v0 := .bool false) (v1 := .slice none 0 0) ?_ _ _ | with_reducible refine Row.sets ?_ _ _ (by omega))) _ _)
          · repeat (first | with_reducible exact dr_ _ | with_reducible exact Below.refl _ _ | with_reducible refine on_ ?_ b3 | with_reducible refine on_ ?_ b2 | with_reducible refine on_ ?_ (al_ _ _) | with_reducible refine on_ ?_ (dr_ _) | with_reducible refine Below.sets ?_ (by omega) _ _)
      case rest =>
        obtain ⟨g, h, tx, ty, Bx, By, nx, ny, cx, cy, rfl, rfl, rx, ry, dx, dy, b⟩ := hcut
        have hB := on_ B1.out b
        replace ra1 := ra1.belowR b
        replace rb1 := rb1.belowR b
        replace i1 := i1.below b
        replace i2 := i2.below b
        clear b ha1 hb1 h1 h2
        generalize zi s xs = x at *
        generalize zi s' ys = y at *
        have z1 : Sz x 60 := i1.sz
        have z2 : Sz y 60 := i2.sz
        have z3 : Sz (x + y) 61 := Sz.add z1 z2 (by omega)
        have z4 : Sz (x - y) 61 := by rw [Int.sub_eq_add_neg]; exact Sz.add z1 z2.neg (by omega)
        have z5 : Sz v 1 := sz_small (by omega)
        have HZ := Lib.hid (And.intro z1 (And.intro z2 (And.intro z3 (And.intro z4 (And.intro z5 z1.neg)))))
        clear z1 z2 z3 z4 z5
        have hc := four_rows ra1 rb1 rx ry
        go_wp2_with fail
        replace hB := on_ hB (dr_ _)
        replace ra1 := ra1.drew
        replace rb1 := rb1.drew
        replace rx := rx.drew
        replace ry := ry.drew
        replace i1 := i1.below (dr_ _)
        replace i2 := i2.below (dr_ _)
        replace dx := dx.below (dr_ _)
        replace dy := dy.below (dr_ _)
        replace hc := four_rows ra1 rb1 rx ry
        go_region_held3 (fun wx => wx.cell? ⟨w.heap.size, 0, none⟩ = some (.bool s) ∧ wx.cell? ⟨w.heap.size, 1, none⟩ = some (.slice A n c) ∧ wx.cell? ⟨w.heap.size + 1, 0, none⟩ = some (.bool s') ∧ wx.cell? ⟨w.heap.size + 1, 1, none⟩ = some (.slice A' n' c') ∧ wx.cell? ⟨g, 0, none⟩ = some (.bool tx) ∧ wx.cell? ⟨g, 1, none⟩ = some (.slice Bx nx cx) ∧ wx.cell? ⟨h, 0, none⟩ = some (.bool ty) ∧ wx.cell? ⟨h, 1, none⟩ = some (.slice By ny cy)) (with_reducible exact hc) (first
          | (go_at_call 9; with_reducible refine (plainV i1 (by omega)).mono ?_; rintro e wn ⟨o1, rfl, d1, b⟩; replace hB := on_ hB b; replace ra1 := ra1.belowR b; replace rb1 := rb1.belowR b; replace rx := rx.belowR b; replace ry := ry.belowR b; replace i1 := i1.below b; replace i2 := i2.below b; replace dx := dx.below b; replace dy := dy.below b; replace hc := four_rows ra1 rb1 rx ry; clear b)
          | (go_at_call 10; with_reducible refine (toV dx HZ.out.1 (by omega)).mono ?_; rintro e wn ⟨o2, rfl, d2, b⟩; replace hB := on_ hB b; replace ra1 := ra1.belowR b; replace rb1 := rb1.belowR b; replace rx := rx.belowR b; replace ry := ry.belowR b; replace i1 := i1.below b; replace i2 := i2.below b; replace dx := dx.below b; replace dy := dy.below b; replace hc := four_rows ra1 rb1 rx ry; replace d1 := d1.below b; clear b)
          | (go_at_call 8; with_reducible refine (sameV d1 d2 HZ.out.1 (by omega)).mono ?_; rintro e wn ⟨rfl, b⟩; replace hB := on_ hB b; replace ra1 := ra1.belowR b; replace rb1 := rb1.belowR b; replace rx := rx.belowR b; replace ry := ry.belowR b; replace i1 := i1.below b; replace i2 := i2.below b; replace dx := dx.below b; replace dy := dy.below b; replace hc := four_rows ra1 rb1 rx ry; clear b)
          | (go_at_call 11; with_reducible refine (signV i1 (by omega)).mono ?_; rintro e wn ⟨rfl, b⟩; replace hB := on_ hB b; replace ra1 := ra1.belowR b; replace rb1 := rb1.belowR b; replace rx := rx.belowR b; replace ry := ry.belowR b; replace i1 := i1.below b; replace i2 := i2.below b; replace dx := dx.below b; replace dy := dy.below b; replace hc := four_rows ra1 rb1 rx ry; clear b)
          | (go_at_call 12; with_reducible refine (signD dx HZ.out.1 (by omega)).mono ?_; rintro e wn ⟨rfl, b⟩; replace hB := on_ hB b; replace ra1 := ra1.belowR b; replace rb1 := rb1.belowR b; replace rx := rx.belowR b; replace ry := ry.belowR b; replace i1 := i1.below b; replace i2 := i2.below b; replace dx := dx.below b; replace dy := dy.below b; replace hc := four_rows ra1 rb1 rx ry; clear b)
          | (go_at_call 13; with_reducible refine (negV i1 (by omega)).mono ?_; rintro e wn ⟨o3, rfl, d3, b⟩; replace hB := on_ hB b; replace ra1 := ra1.belowR b; replace rb1 := rb1.belowR b; replace rx := rx.belowR b; replace ry := ry.belowR b; replace i1 := i1.below b; replace i2 := i2.below b; replace dx := dx.below b; replace dy := dy.below b; replace hc := four_rows ra1 rb1 rx ry; clear b)
          | (go_at_call 14; with_reducible refine (negD dx HZ.out.1 (by omega)).mono ?_; rintro e wn ⟨o4, rfl, d4, b⟩; replace hB := on_ hB b; replace ra1 := ra1.belowR b; replace rb1 := rb1.belowR b; replace rx := rx.belowR b; replace ry := ry.belowR b; replace i1 := i1.below b; replace i2 := i2.below b; replace dx := dx.below b; replace dy := dy.below b; replace hc := four_rows ra1 rb1 rx ry; replace d3 := d3.below b; clear b)
          | (go_at_call 10; with_reducible refine (toV d4 HZ.out.2.2.2.2.2 (by omega)).mono ?_; rintro e wn ⟨o5, rfl, d5, b⟩; replace hB := on_ hB b; replace ra1 := ra1.belowR b; replace rb1 := rb1.belowR b; replace rx := rx.belowR b; replace ry := ry.belowR b; replace i1 := i1.below b; replace i2 := i2.below b; replace dx := dx.below b; replace dy := dy.below b; replace hc := four_rows ra1 rb1 rx ry; replace d3 := d3.below b; clear b)
          | (go_at_call 8; with_reducible refine (sameV d3 d5 HZ.out.2.2.2.2.2 (by omega)).mono ?_; rintro e wn ⟨rfl, b⟩; replace hB := on_ hB b; replace ra1 := ra1.belowR b; replace rb1 := rb1.belowR b; replace rx := rx.belowR b; replace ry := ry.belowR b; replace i1 := i1.below b; replace i2 := i2.below b; replace dx := dx.below b; replace dy := dy.below b; replace hc := four_rows ra1 rb1 rx ry; clear b)
          | (go_at_call 15; with_reducible refine (cmpV i1 i2 (by omega) (by omega)).mono ?_; rintro e wn ⟨rfl, b⟩; replace hB := on_ hB b; replace ra1 := ra1.belowR b; replace rb1 := rb1.belowR b; replace rx := rx.belowR b; replace ry := ry.belowR b; replace i1 := i1.below b; replace i2 := i2.below b; replace dx := dx.below b; replace dy := dy.below b; replace hc := four_rows ra1 rb1 rx ry; clear b)
          | (go_at_call 16; with_reducible refine (cmpD dx dy HZ.out.1 HZ.out.2.1 (by omega) (by omega)).mono ?_; rintro e wn ⟨rfl, b⟩; replace hB := on_ hB b; replace ra1 := ra1.belowR b; replace rb1 := rb1.belowR b; replace rx := rx.belowR b; replace ry := ry.belowR b; replace i1 := i1.below b; replace i2 := i2.below b; replace dx := dx.below b; replace dy := dy.below b; replace hc := four_rows ra1 rb1 rx ry; clear b))
        all_goals
          go_wp2_with fail
          clear d1 d2 d3 d4 d5
          replace hB := on_ hB (dr_ _)
          replace ra1 := ra1.drew
          replace rb1 := rb1.drew
          replace rx := rx.drew
          replace ry := ry.drew
          replace i1 := i1.below (dr_ _)
          replace i2 := i2.below (dr_ _)
          replace dx := dx.below (dr_ _)
          replace dy := dy.below (dr_ _)
          replace hc := four_rows ra1 rb1 rx ry
          go_region_held3 (fun wx => wx.cell? ⟨w.heap.size, 0, none⟩ = some (.bool s) ∧ wx.cell? ⟨w.heap.size, 1, none⟩ = some (.slice A n c) ∧ wx.cell? ⟨w.heap.size + 1, 0, none⟩ = some (.bool s') ∧ wx.cell? ⟨w.heap.size + 1, 1, none⟩ = some (.slice A' n' c') ∧ wx.cell? ⟨g, 0, none⟩ = some (.bool tx) ∧ wx.cell? ⟨g, 1, none⟩ = some (.slice Bx nx cx) ∧ wx.cell? ⟨h, 0, none⟩ = some (.bool ty) ∧ wx.cell? ⟨h, 1, none⟩ = some (.slice By ny cy)) (with_reducible exact hc) (first
            | (go_at_call 17; with_reducible refine (addV i1 i2 (by omega) (by omega)).mono ?_; rintro e wn ⟨p1, rfl, e1, b⟩; replace hB := on_ hB b; replace ra1 := ra1.belowR b; replace rb1 := rb1.belowR b; replace rx := rx.belowR b; replace ry := ry.belowR b; replace i1 := i1.below b; replace i2 := i2.below b; replace dx := dx.below b; replace dy := dy.below b; replace hc := four_rows ra1 rb1 rx ry; clear b)
            | (go_at_call 18; with_reducible refine (addD dx dy HZ.out.1 HZ.out.2.1 (by omega) (by omega)).mono ?_; rintro e wn ⟨p2, rfl, e2, b⟩; replace hB := on_ hB b; replace ra1 := ra1.belowR b; replace rb1 := rb1.belowR b; replace rx := rx.belowR b; replace ry := ry.belowR b; replace i1 := i1.below b; replace i2 := i2.below b; replace dx := dx.below b; replace dy := dy.below b; replace hc := four_rows ra1 rb1 rx ry; replace e1 := e1.below b; clear b)
            | (go_at_call 10; with_reducible refine (toV e2 HZ.out.2.2.1 (by omega)).mono ?_; rintro e wn ⟨p3, rfl, e3, b⟩; replace hB := on_ hB b; replace ra1 := ra1.belowR b; replace rb1 := rb1.belowR b; replace rx := rx.belowR b; replace ry := ry.belowR b; replace i1 := i1.below b; replace i2 := i2.below b; replace dx := dx.below b; replace dy := dy.below b; replace hc := four_rows ra1 rb1 rx ry; replace e1 := e1.below b; clear b)
            | (go_at_call 8; with_reducible refine (sameV e1 e3 HZ.out.2.2.1 (by omega)).mono ?_; rintro e wn ⟨rfl, b⟩; replace hB := on_ hB b; replace ra1 := ra1.belowR b; replace rb1 := rb1.belowR b; replace rx := rx.belowR b; replace ry := ry.belowR b; replace i1 := i1.below b; replace i2 := i2.below b; replace dx := dx.below b; replace dy := dy.below b; replace hc := four_rows ra1 rb1 rx ry; clear b)
            | (go_at_call 19; with_reducible refine (subV i1 i2 (by omega) (by omega)).mono ?_; rintro e wn ⟨q1, rfl, e4, b⟩; replace hB := on_ hB b; replace ra1 := ra1.belowR b; replace rb1 := rb1.belowR b; replace rx := rx.belowR b; replace ry := ry.belowR b; replace i1 := i1.below b; replace i2 := i2.below b; replace dx := dx.below b; replace dy := dy.below b; replace hc := four_rows ra1 rb1 rx ry; clear b)
            | (go_at_call 20; with_reducible refine (subD dx dy HZ.out.1 HZ.out.2.1 (by omega) (by omega)).mono ?_; rintro e wn ⟨q2, rfl, e5, b⟩; replace hB := on_ hB b; replace ra1 := ra1.belowR b; replace rb1 := rb1.belowR b; replace rx := rx.belowR b; replace ry := ry.belowR b; replace i1 := i1.below b; replace i2 := i2.below b; replace dx := dx.below b; replace dy := dy.below b; replace hc := four_rows ra1 rb1 rx ry; replace e4 := e4.below b; clear b)
            | (go_at_call 10; with_reducible refine (toV e5 HZ.out.2.2.2.1 (by omega)).mono ?_; rintro e wn ⟨q3, rfl, e6, b⟩; replace hB := on_ hB b; replace ra1 := ra1.belowR b; replace rb1 := rb1.belowR b; replace rx := rx.belowR b; replace ry := ry.belowR b; replace i1 := i1.below b; replace i2 := i2.below b; replace dx := dx.below b; replace dy := dy.below b; replace hc := four_rows ra1 rb1 rx ry; replace e4 := e4.below b; clear b)
            | (go_at_call 8; with_reducible refine (sameV e4 e6 HZ.out.2.2.2.1 (by omega)).mono ?_; rintro e wn ⟨rfl, b⟩; replace hB := on_ hB b; replace ra1 := ra1.belowR b; replace rb1 := rb1.belowR b; replace rx := rx.belowR b; replace ry := ry.belowR b; replace i1 := i1.below b; replace i2 := i2.below b; replace dx := dx.below b; replace dy := dy.below b; replace hc := four_rows ra1 rb1 rx ry; clear b)
            | (go_at_call 21; with_reducible refine (ofV v (by omega) (by omega)).mono ?_; rintro e wn ⟨r1, rfl, e7, b⟩; replace hB := on_ hB b; replace ra1 := ra1.belowR b; replace rb1 := rb1.belowR b; replace rx := rx.belowR b; replace ry := ry.belowR b; replace i1 := i1.below b; replace i2 := i2.below b; replace dx := dx.below b; replace dy := dy.below b; replace hc := four_rows ra1 rb1 rx ry; clear b)
            | (go_at_call 22; with_reducible refine (smallD v (by omega) (by omega)).mono ?_; rintro e wn ⟨r2, rfl, e8, b⟩; replace hB := on_ hB b; replace ra1 := ra1.belowR b; replace rb1 := rb1.belowR b; replace rx := rx.belowR b; replace ry := ry.belowR b; replace i1 := i1.below b; replace i2 := i2.below b; replace dx := dx.below b; replace dy := dy.below b; replace hc := four_rows ra1 rb1 rx ry; replace e7 := e7.below b; clear b)
            | (go_at_call 10; with_reducible refine (toV e8 HZ.out.2.2.2.2.1 (by omega)).mono ?_; rintro e wn ⟨r3, rfl, e9, b⟩; replace hB := on_ hB b; replace ra1 := ra1.belowR b; replace rb1 := rb1.belowR b; replace rx := rx.belowR b; replace ry := ry.belowR b; replace i1 := i1.below b; replace i2 := i2.below b; replace dx := dx.below b; replace dy := dy.below b; replace hc := four_rows ra1 rb1 rx ry; replace e7 := e7.below b; clear b)
            | (go_at_call 8; with_reducible refine (sameV e7 e9 HZ.out.2.2.2.2.1 (by omega)).mono ?_; rintro e wn ⟨rfl, b⟩; replace hB := on_ hB b; replace ra1 := ra1.belowR b; replace rb1 := rb1.belowR b; replace rx := rx.belowR b; replace ry := ry.belowR b; replace i1 := i1.below b; replace i2 := i2.below b; replace dx := dx.below b; replace dy := dy.below b; replace hc := four_rows ra1 rb1 rx ry; clear b))
          all_goals
            go_wp2_with fail
            go_ret
            exact ⟨rfl, hB⟩
end Go.Proofs.Ytdkfnbpdbpmibaa
