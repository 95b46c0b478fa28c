/- The walk of the law of the ring of whole numbers. -/
import Derived.Test.YtdkfnbpdbpmibaaLwB
namespace Go.Proofs.Ytdkfnbpdbpmibaa
open Go.RowKit

theorem sgz_anti (x y : Int) : sgz (y - x) = -(sgz (x - y)) := by
  unfold sgz; (repeat' split) <;> omega
theorem sz_self (x : Int) (k : Nat) : Sz (x - x) k := by
  have h2 : ((x - x).natAbs : Int) = 0 := by omega
  unfold Sz
  rw [h2]
  exact bpow_pos B64_pos k
theorem sgz_bds (x : Int) : -1 ≤ sgz x ∧ sgz x ≤ 1 := by unfold sgz; split <;> (try split) <;> omega
theorem three_rows {w : World} {g0 g1 g2 : Nat} {e : TypeId} {v0 u0 v1 u1 v2 u2 : Value} (h0 : Row w g0 e #[v0, u0]) (h1 : Row w g1 e #[v1, u1]) (h2 : Row w g2 e #[v2, u2]) :
    w.cell? ⟨g0, 0, none⟩ = some v0 ∧ w.cell? ⟨g0, 1, none⟩ = some u0 ∧ w.cell? ⟨g1, 0, none⟩ = some v1 ∧ w.cell? ⟨g1, 1, none⟩ = some u1 ∧ w.cell? ⟨g2, 0, none⟩ = some v2 ∧ w.cell? ⟨g2, 1, none⟩ = some u2 :=
  ⟨(box_facts h0).1, (box_facts h0).2.1, (box_facts h1).1, (box_facts h1).2.1, (box_facts h2).1, (box_facts h2).2.1⟩
theorem seven_rows {w : World} {g0 g1 g2 g3 g4 g5 g6 : Nat} {e : TypeId} {v0 u0 v1 u1 v2 u2 v3 u3 v4 u4 v5 u5 v6 u6 : Value} (h0 : Row w g0 e #[v0, u0]) (h1 : Row w g1 e #[v1, u1]) (h2 : Row w g2 e #[v2, u2]) (h3 : Row w g3 e #[v3, u3]) (h4 : Row w g4 e #[v4, u4]) (h5 : Row w g5 e #[v5, u5]) (h6 : Row w g6 e #[v6, u6]) :
    w.cell? ⟨g0, 0, none⟩ = some v0 ∧ w.cell? ⟨g0, 1, none⟩ = some u0 ∧ w.cell? ⟨g1, 0, none⟩ = some v1 ∧ w.cell? ⟨g1, 1, none⟩ = some u1 ∧ w.cell? ⟨g2, 0, none⟩ = some v2 ∧ w.cell? ⟨g2, 1, none⟩ = some u2 ∧ w.cell? ⟨g3, 0, none⟩ = some v3 ∧ w.cell? ⟨g3, 1, none⟩ = some u3 ∧ w.cell? ⟨g4, 0, none⟩ = some v4 ∧ w.cell? ⟨g4, 1, none⟩ = some u4 ∧ w.cell? ⟨g5, 0, none⟩ = some v5 ∧ w.cell? ⟨g5, 1, none⟩ = some u5 ∧ w.cell? ⟨g6, 0, none⟩ = some v6 ∧ w.cell? ⟨g6, 1, none⟩ = some u6 :=
  ⟨(box_facts h0).1, (box_facts h0).2.1, (box_facts h1).1, (box_facts h1).2.1, (box_facts h2).1, (box_facts h2).2.1, (box_facts h3).1, (box_facts h3).2.1, (box_facts h4).1, (box_facts h4).2.1, (box_facts h5).1, (box_facts h5).2.1, (box_facts h6).1, (box_facts h6).2.1⟩
theorem CV.sets {w : World} {v : Value} {z : Int} {g : Nat} {e : TypeId} {b0 : Bool} {a0 : Option Addr} {n0 c0 : Nat} (h : CV w v z) (hb : Row w g e #[.bool b0, .slice a0 n0 c0]) (u0 u1 : Value) :
    CV ((w.setCell ⟨g, 0, none⟩ u0).setCell ⟨g, 1, none⟩ u1) v z := by
  obtain ⟨t, zs, B, d, h1, h2, h3, h4⟩ := h
  exact ⟨t, zs, B, d, h1, h2, h3.set2 hb u0 u1, h4⟩
theorem three_new (w : World) (e : TypeId) (a0 a1 a2 : Array Value) : Below w.heap.size w (((w.alloc (.cells a0 e)).alloc (.cells a1 e)).alloc (.cells a2 e)) := on_ (on_ (al_ _ _) (al_ _ _)) (al_ _ _)

set_option maxRecDepth 100000 in
set_option maxHeartbeats 6400000 in
theorem ring_any (s s' s'' : Bool) (A A' A'' : Option Addr) (n n' n'' : Nat) (xs ys zs : List Int) (c c' c'' : Nat) (w : World) (h1r : RdS w .u64 A n xs) (h1c : n ≤ c) (h1d : Dg B64 xs) (h2r : RdS w .u64 A' n' ys) (h2c : n' ≤ c') (h2d : Dg B64 ys) (h3r : RdS w .u64 A'' n'' zs) (h3c : n'' ≤ c'') (h3d : Dg B64 zs) :
    Calls Try.prog 4 #[.agg #[.bool s, .slice A n c], .agg #[.bool s', .slice A' n' c'], .agg #[.bool s'', .slice A'' n'' c'']] w fun e w' => e = .returned (.bool true) ∧ Below w.heap.size w w' := by
  obtain ⟨ra, rb, rd, hB, _⟩ := new3 w 24 24 24 #[.bool s, .slice A n c] #[.bool s', .slice A' n' c'] #[.bool s'', .slice A'' n'' c'']
  by_cases q1 : 20 < n
  · go_enter Try.func4, Try.ntmps4
    go_wp2_with fail
    generalize ((w.alloc (.cells #[.bool s, .slice A n c] 24)).alloc (.cells #[.bool s', .slice A' n' c'] 24)).alloc (.cells #[.bool s'', .slice A'' n'' c''] 24) = W at *
    refine (awake_any W).mono ?_
    rintro e w1 ⟨rfl, b⟩
    have ha := box_facts (ra.belowR b)
    have hb := box_facts (rb.belowR b)
    have hd := box_facts (rd.belowR b)
    go_wp2_with fail
    go_ret
    exact ⟨rfl, on_ hB b⟩
  by_cases q2 : 20 < n'
  · go_enter Try.func4, Try.ntmps4
    go_wp2_with fail
    generalize ((w.alloc (.cells #[.bool s, .slice A n c] 24)).alloc (.cells #[.bool s', .slice A' n' c'] 24)).alloc (.cells #[.bool s'', .slice A'' n'' c''] 24) = W at *
    refine (awake_any W).mono ?_
    rintro e w1 ⟨rfl, b⟩
    have ha := box_facts (ra.belowR b)
    have hb := box_facts (rb.belowR b)
    have hd := box_facts (rd.belowR b)
    go_wp2_with fail
    go_ret
    exact ⟨rfl, on_ hB b⟩
  by_cases q3 : 20 < n''
  · go_enter Try.func4, Try.ntmps4
    go_wp2_with fail
    generalize ((w.alloc (.cells #[.bool s, .slice A n c] 24)).alloc (.cells #[.bool s', .slice A' n' c'] 24)).alloc (.cells #[.bool s'', .slice A'' n'' c''] 24) = W at *
    refine (awake_any W).mono ?_
    rintro e w1 ⟨rfl, b⟩
    have ha := box_facts (ra.belowR b)
    have hb := box_facts (rb.belowR b)
    have hd := box_facts (rd.belowR b)
    go_wp2_with fail
    go_ret
    exact ⟨rfl, on_ hB b⟩
  have i1 : IV w (.agg #[.bool s, .slice A n c]) (zi s xs) 20 := ⟨s, xs, A, c, by rw [h1r.len], by rw [h1r.len]; exact h1c, by rw [h1r.len]; exact h1r, h1d, rfl, by rw [h1r.len]; omega⟩
  have i2 : IV w (.agg #[.bool s', .slice A' n' c']) (zi s' ys) 20 := ⟨s', ys, A', c', by rw [h2r.len], by rw [h2r.len]; exact h2c, by rw [h2r.len]; exact h2r, h2d, rfl, by rw [h2r.len]; omega⟩
  have i3 : IV w (.agg #[.bool s'', .slice A'' n'' c'']) (zi s'' zs) 20 := ⟨s'', zs, A'', c'', by rw [h3r.len], by rw [h3r.len]; exact h3c, by rw [h3r.len]; exact h3r, h3d, rfl, by rw [h3r.len]; omega⟩
  generalize zi s xs = x at *
  generalize zi s' ys = y at *
  generalize zi s'' zs = z at *
  have z1 : Sz (x * y) 40 := Sz.mul i1.sz i2.sz (by omega)
  have z2 : Sz (x * z) 40 := Sz.mul i1.sz i3.sz (by omega)
  have z3 : Sz (y + z) 21 := Sz.add i2.sz i3.sz (by omega)
  have z4 : Sz (x + y) 21 := Sz.add i1.sz i2.sz (by omega)
  have z5 : Sz (x * (y + z)) 41 := Sz.mul i1.sz z3 (by omega)
  have z6 : Sz (x + y + z) 22 := Sz.add z4 (Sz.mono i3.sz (show 20 ≤ 21 by omega)) (by omega)
  have HZ := Lib.hid (And.intro z1 (And.intro z2 (And.intro z3 z4)))
  have HY := Lib.hid (And.intro z5 (And.intro z6 (sz_self x 21)))
  clear z1 z2 z3 z4 z5 z6
  have HA := Lib.hid (sgz_anti x y)
  obtain ⟨k, hk⟩ : ∃ k, k = sgz (x - y) := ⟨_, rfl⟩
  have kb := sgz_bds (x - y)
  rw [← hk] at kb HA
  have HK := Lib.hid hk
  have wk : IntKind.i64.wrap (-(-k)) = k := by rw [Int.neg_neg]; exact IntWalk.i64_in _ (by omega)
  have wk2 : IntKind.i64.wrap k = k := IntWalk.i64_in _ (by omega)
  clear hk kb
  replace i1 := i1.below hB
  replace i2 := i2.below hB
  replace i3 := i3.below hB
  clear h1r h1c h1d h2r h2c h2d h3r h3c h3d
  go_enter Try.func4, Try.ntmps4
  go_wp2_with fail
  generalize ((w.alloc (.cells #[.bool s, .slice A n c] 24)).alloc (.cells #[.bool s', .slice A' n' c'] 24)).alloc (.cells #[.bool s'', .slice A'' n'' c''] 24) = W at *
  refine (awake_any W).mono ?_
  rintro e w1 ⟨rfl, b⟩
  replace hB := on_ hB b
  replace ra := ra.belowR b
  replace rb := rb.belowR b
  replace rd := rd.belowR b
  replace i1 := i1.below b
  replace i2 := i2.below b
  replace i3 := i3.below b
  clear b
  have hc := three_rows ra rb rd
  go_wp2_with fail
  refine (mulV i1 i2 (by omega) (by omega)).mono ?_
  rintro e w2 ⟨vp, rfl, cp, b⟩
  replace hB := on_ hB b
  replace ra := ra.belowR b
  replace rb := rb.belowR b
  replace rd := rd.belowR b
  replace i1 := i1.below b
  replace i2 := i2.below b
  replace i3 := i3.below b
  clear b
  obtain ⟨tp, Bp, np, dp, rfl⟩ := cp.shape
  replace hc := three_rows ra rb rd
  have fa := three_rows (ra.allocR (.cells #[.bool tp, .slice Bp np dp] 24)) (rb.allocR (.cells #[.bool tp, .slice Bp np dp] 24)) (rd.allocR (.cells #[.bool tp, .slice Bp np dp] 24))
  go_wp2_with fail
  clear fa
  have rp := Row.new w2 24 #[.bool tp, .slice Bp np dp]
  have b := al_ w2 (.cells #[.bool tp, .slice Bp np dp] 24)
  replace hB := on_ hB b
  replace ra := ra.belowR b
  replace rb := rb.belowR b
  replace rd := rd.belowR b
  replace i1 := i1.below b
  replace i2 := i2.below b
  replace i3 := i3.below b
  replace cp := cp.below b
  clear b
  generalize (w2.alloc (.cells #[.bool tp, .slice Bp np dp] 24)) = W2 at *
  generalize w2.heap.size = gp at *
  have hp := box_facts rp
  replace hc := three_rows ra rb rd
  refine (mulV i2 i1 (by omega) (by omega)).mono ?_
  rintro e w3 ⟨vq, rfl, cq, b⟩
  replace hB := on_ hB b
  replace ra := ra.belowR b
  replace rb := rb.belowR b
  replace rd := rd.belowR b
  replace rp := rp.belowR b
  replace i1 := i1.below b
  replace i2 := i2.below b
  replace i3 := i3.below b
  replace cp := cp.below b
  clear b
  obtain ⟨tq, Bq, nq, dq, rfl⟩ := cq.shape
  replace hc := three_rows ra rb rd
  replace hp := box_facts rp
  have fa := three_rows (ra.allocR (.cells #[.bool tq, .slice Bq nq dq] 24)) (rb.allocR (.cells #[.bool tq, .slice Bq nq dq] 24)) (rd.allocR (.cells #[.bool tq, .slice Bq nq dq] 24))
  go_wp2_with fail
  clear fa
  have rq := Row.new w3 24 #[.bool tq, .slice Bq nq dq]
  have b := al_ w3 (.cells #[.bool tq, .slice Bq nq dq] 24)
  replace hB := on_ hB b
  replace ra := ra.belowR b
  replace rb := rb.belowR b
  replace rd := rd.belowR b
  replace rp := rp.belowR b
  replace i1 := i1.below b
  replace i2 := i2.below b
  replace i3 := i3.below b
  replace cp := cp.below b
  replace cq := cq.below b
  clear b
  generalize (w3.alloc (.cells #[.bool tq, .slice Bq nq dq] 24)) = W3 at *
  generalize w3.heap.size = gq at *
  have hq := box_facts rq
  replace hc := three_rows ra rb rd
  refine (mulV i1 i3 (by omega) (by omega)).mono ?_
  rintro e w4 ⟨vr, rfl, cr, b⟩
  replace hB := on_ hB b
  replace ra := ra.belowR b
  replace rb := rb.belowR b
  replace rd := rd.belowR b
  replace rp := rp.belowR b
  replace rq := rq.belowR b
  replace i1 := i1.below b
  replace i2 := i2.below b
  replace i3 := i3.below b
  replace cp := cp.below b
  replace cq := cq.below b
  clear b
  obtain ⟨tr, Br, nr, dr, rfl⟩ := cr.shape
  replace hc := three_rows ra rb rd
  replace hp := box_facts rp
  replace hq := box_facts rq
  go_upto_region 8 with fail
  have rr := Row.new w4 24 #[.bool tr, .slice Br nr dr]
  have b := al_ w4 (.cells #[.bool tr, .slice Br nr dr] 24)
  replace hB := on_ hB b
  replace ra := ra.belowR b
  replace rb := rb.belowR b
  replace rd := rd.belowR b
  replace rp := rp.belowR b
  replace rq := rq.belowR b
  replace i1 := i1.below b
  replace i2 := i2.below b
  replace i3 := i3.below b
  replace cp := cp.below b
  replace cq := cq.below b
  replace cr := cr.below b
  clear b
  generalize (w4.alloc (.cells #[.bool tr, .slice Br nr dr] 24)) = W4 at *
  generalize w4.heap.size = gr at *
  have hr := box_facts rr
  replace hc := three_rows ra rb rd
  have sB := hB.size
  go_cut [13] (fun v13 wx => ∃ (gu : Nat) (tu : Bool) (Bu : Option Addr) (nu du : Nat), v13 = .pointer (some ⟨gu, 0, none⟩) ∧ Row wx gu 24 #[.bool tu, .slice Bu nu du] ∧
    CV wx (.agg #[.bool tu, .slice Bu nu du]) (x * (y + z)) ∧ Below W4.heap.size W4 wx)
  case first =>
    have i1d := i1.below (dr_ W4)
    have i2d := i2.below (dr_ W4)
    have i3d := i3.below (dr_ W4)
    have rad := ra.belowR (dr_ W4)
    have rbd := rb.belowR (dr_ W4)
    have rdd := rd.belowR (dr_ W4)
    have la := ra.lt
    have lb := rb.lt
    have ld := rd.lt
    have hcd := three_rows rad rbd rdd
    rename_i K0 aK0 J0 K1 aJ0 aK1
    clear hc hp hq hr q1 q2 q3 aK0
    go_region_held3 (fun wx => wx.cell? ⟨w.heap.size, 0, none⟩ = some (.bool s) ∧ wx.cell? ⟨w.heap.size, 1, none⟩ = some (.slice A n c) ∧ wx.cell? ⟨w.heap.size + 1, 0, none⟩ = some (.bool s') ∧ wx.cell? ⟨w.heap.size + 1, 1, none⟩ = some (.slice A' n' c') ∧ wx.cell? ⟨w.heap.size + 1 + 1, 0, none⟩ = some (.bool s'') ∧ wx.cell? ⟨w.heap.size + 1 + 1, 1, none⟩ = some (.slice A'' n'' c'')) (first | with_reducible exact hcd | (with_reducible refine three_rows (e := 24) ?_ ?_ ?_ <;> repeat (first | with_reducible exact rad | with_reducible exact rbd | with_reducible exact rdd | with_reducible exact ra | with_reducible exact rb | with_reducible exact rd | with_reducible refine Row.allocR ?_ _ | with_reducible refine Row.belowR ?_ b3 | with_reducible refine Row.belowR ?_ b2 | with_reducible refine Row.drew ?_ | with_reducible refine Row.sets ?_ _ _ (by omega)))) (first | (go_at_call 17; refine (addV (z := y) (z' := z) (k := 20) (k' := 20) (by repeat (first | with_reducible exact i2d | with_reducible exact i2 | with_reducible refine IV.below ?_ b2 | with_reducible refine IV.below ?_ (al_ _ _) | with_reducible refine IV.below ?_ (dr_ _))) (by repeat (first | with_reducible exact i3d | with_reducible exact i3 | with_reducible refine IV.below ?_ b2 | with_reducible refine IV.below ?_ (al_ _ _) | with_reducible refine IV.below ?_ (dr_ _))) (by omega) (by omega)).mono ?_; rintro e w5 ⟨va, rfl, ca, b2⟩; have l2 := b2.size; (first | (have g0 : Row w5 (W4.heap.size) 24 #[.bool false, .slice none 0 0] := Row.belowR (Row.newE rfl) b2; have hg0 := box_facts g0) | (have g0 : Row w5 (W4.heap.size) 24 #[.bool false, .slice none 0 0] := Row.belowR (Row.drew (Row.newE rfl)) b2; have hg0 := box_facts g0) | skip); (try simp at l2)) | (go_at_call 23; refine (mulV (z := x) (z' := y + z) (k := 20) (k' := 21) (by repeat (first | with_reducible exact i1d | with_reducible exact i1 | with_reducible refine IV.below ?_ b2 | with_reducible refine IV.below ?_ (al_ _ _) | with_reducible refine IV.below ?_ (dr_ _))) (by repeat (first | with_reducible exact ca.iv HZ.out.2.2.1 | with_reducible refine IV.below ?_ (al_ _ _))) (by omega) (by omega)).mono ?_; rintro e w6 ⟨vu, rfl, cu, b3⟩; obtain ⟨tu, Bu, nu, du, rfl⟩ := cu.shape; have l3 := b3.size; (first | (have k0 : Row w6 (W4.heap.size) 24 #[.bool false, .slice none 0 0] := Row.belowR g0 b3; have hk0 := box_facts k0) | skip); (first | (have k2 : Row w6 (w5.heap.size) 24 #[.bool false, .slice none 0 0] := Row.belowR (Row.newE rfl) b3; have hk2 := box_facts k2) | skip); (try simp at l3)))
    all_goals
      go_wp2_with fail
      go_meet
      refine ⟨_, tu, Bu, nu, du, rfl, ?_, ?_, ?_⟩
      · (repeat (first | with_reducible exact k0 | with_reducible exact k2 | with_reducible exact Row.newE rfl | with_reducible refine box_set (v0 := .bool false) (v1 := .slice none 0 0) ?_ _ _))
      · repeat (first | with_reducible exact cu | with_reducible refine CV.below ?_ (al_ _ _) | with_reducible refine CV.sets (e := 24) ?_ (by (repeat (first | with_reducible exact k0 | with_reducible exact k2 | with_reducible exact Row.newE rfl | with_reducible refine box_set (v0 := .bool false) (v1 := .slice none 0 0) ?_ _ _))) _ _)
      · repeat (first | with_reducible exact dr_ _ | with_reducible exact Below.refl _ _ | with_reducible refine on_ ?_ b3 | with_reducible refine on_ ?_ b2 | with_reducible refine on_ ?_ (al_ _ _) | with_reducible refine on_ ?_ (dr_ _) | with_reducible refine Below.sets ?_ (by omega) _ _)
  case rest =>
    obtain ⟨gu, tu, Bu, nu, du, rfl, ru, cu, b⟩ := hcut
    replace hB := on_ hB b
    replace ra := ra.belowR b
    replace rb := rb.belowR b
    replace rd := rd.belowR b
    replace rp := rp.belowR b
    replace rq := rq.belowR b
    replace rr := rr.belowR b
    replace i1 := i1.below b
    replace i2 := i2.below b
    replace i3 := i3.below b
    replace cp := cp.below b
    replace cq := cq.below b
    replace cr := cr.below b
    clear b hp hq hr
    replace hc := seven_rows ra rb rd rp rq rr ru
    go_wp2_with fail
    replace hB := on_ hB (dr_ _)
    replace ra := ra.drew
    replace rb := rb.drew
    replace rd := rd.drew
    replace rp := rp.drew
    replace rq := rq.drew
    replace rr := rr.drew
    replace ru := ru.drew
    replace i1 := i1.below (dr_ _)
    replace i2 := i2.below (dr_ _)
    replace i3 := i3.below (dr_ _)
    replace cp := cp.below (dr_ _)
    replace cq := cq.below (dr_ _)
    replace cr := cr.below (dr_ _)
    replace cu := cu.below (dr_ _)
    replace hc := seven_rows ra rb rd rp rq rr ru
    go_region_held3 (fun wx => wx.cell? ⟨w.heap.size, 0, none⟩ = some (.bool s) ∧ wx.cell? ⟨w.heap.size, 1, none⟩ = some (.slice A n c) ∧ wx.cell? ⟨w.heap.size + 1, 0, none⟩ = some (.bool s') ∧ wx.cell? ⟨w.heap.size + 1, 1, none⟩ = some (.slice A' n' c') ∧ wx.cell? ⟨w.heap.size + 1 + 1, 0, none⟩ = some (.bool s'') ∧ wx.cell? ⟨w.heap.size + 1 + 1, 1, none⟩ = some (.slice A'' n'' c'') ∧ wx.cell? ⟨gp, 0, none⟩ = some (.bool tp) ∧ wx.cell? ⟨gp, 1, none⟩ = some (.slice Bp np dp) ∧ wx.cell? ⟨gq, 0, none⟩ = some (.bool tq) ∧ wx.cell? ⟨gq, 1, none⟩ = some (.slice Bq nq dq) ∧ wx.cell? ⟨gr, 0, none⟩ = some (.bool tr) ∧ wx.cell? ⟨gr, 1, none⟩ = some (.slice Br nr dr) ∧ wx.cell? ⟨gu, 0, none⟩ = some (.bool tu) ∧ wx.cell? ⟨gu, 1, none⟩ = some (.slice Bu nu du)) (exact hc) (first
      | (go_at_call_of 8 (Value.agg #[Value.bool tp, Value.slice Bp np dp]); with_reducible refine (sameV cp (by rw [Int.mul_comm x y]; exact cq) HZ.out.1 (by omega)).mono ?_; rintro e wn ⟨rfl, b⟩; replace hB := on_ hB b; replace ra := ra.belowR b; replace rb := rb.belowR b; replace rd := rd.belowR b; replace rp := rp.belowR b; replace rq := rq.belowR b; replace rr := rr.belowR b; replace ru := ru.belowR b; replace i1 := i1.below b; replace i2 := i2.below b; replace i3 := i3.below b; replace cp := cp.below b; replace cq := cq.below b; replace cr := cr.below b; replace cu := cu.below b; replace hc := seven_rows ra rb rd rp rq rr ru; clear b)
      | (go_at_call_of 17 (Value.agg #[Value.bool tp, Value.slice Bp np dp]); with_reducible refine (addV (cp.iv HZ.out.1) (cr.iv HZ.out.2.1) (by omega) (by omega)).mono ?_; rintro e wn ⟨v1, rfl, c1, b⟩; replace hB := on_ hB b; replace ra := ra.belowR b; replace rb := rb.belowR b; replace rd := rd.belowR b; replace rp := rp.belowR b; replace rq := rq.belowR b; replace rr := rr.belowR b; replace ru := ru.belowR b; replace i1 := i1.below b; replace i2 := i2.below b; replace i3 := i3.below b; replace cp := cp.below b; replace cq := cq.below b; replace cr := cr.below b; replace cu := cu.below b; replace hc := seven_rows ra rb rd rp rq rr ru; clear b)
      | (go_at_call_of 8 (Value.agg #[Value.bool tu, Value.slice Bu nu du]); with_reducible refine (sameV cu (by rw [Int.mul_add]; exact c1) HY.out.1 (by omega)).mono ?_; rintro e wn ⟨rfl, b⟩; replace hB := on_ hB b; replace ra := ra.belowR b; replace rb := rb.belowR b; replace rd := rd.belowR b; replace rp := rp.belowR b; replace rq := rq.belowR b; replace rr := rr.belowR b; replace ru := ru.belowR b; replace i1 := i1.below b; replace i2 := i2.below b; replace i3 := i3.below b; replace cp := cp.below b; replace cq := cq.below b; replace cr := cr.below b; replace cu := cu.below b; replace hc := seven_rows ra rb rd rp rq rr ru; clear b)
      | (go_at_call_of 17 (Value.agg #[Value.bool s, Value.slice A n c]); with_reducible refine (addV i1 i2 (by omega) (by omega)).mono ?_; rintro e wn ⟨v2, rfl, c2, b⟩; replace hB := on_ hB b; replace ra := ra.belowR b; replace rb := rb.belowR b; replace rd := rd.belowR b; replace rp := rp.belowR b; replace rq := rq.belowR b; replace rr := rr.belowR b; replace ru := ru.belowR b; replace i1 := i1.below b; replace i2 := i2.below b; replace i3 := i3.below b; replace cp := cp.below b; replace cq := cq.below b; replace cr := cr.below b; replace cu := cu.below b; replace hc := seven_rows ra rb rd rp rq rr ru; clear b)
      | (go_at_call_of 17 (Value.agg #[Value.bool s', Value.slice A' n' c']); with_reducible refine (addV i2 i1 (by omega) (by omega)).mono ?_; rintro e wn ⟨v3, rfl, c3, b⟩; replace hB := on_ hB b; replace ra := ra.belowR b; replace rb := rb.belowR b; replace rd := rd.belowR b; replace rp := rp.belowR b; replace rq := rq.belowR b; replace rr := rr.belowR b; replace ru := ru.belowR b; replace i1 := i1.below b; replace i2 := i2.below b; replace i3 := i3.below b; replace cp := cp.below b; replace cq := cq.below b; replace cr := cr.below b; replace cu := cu.below b; replace hc := seven_rows ra rb rd rp rq rr ru; replace c2 := c2.below b; clear b)
      | (go_at_call_of 8 v2; with_reducible refine (sameV c2 (by rw [Int.add_comm x y]; exact c3) HZ.out.2.2.2 (by omega)).mono ?_; rintro e wn ⟨rfl, b⟩; replace hB := on_ hB b; replace ra := ra.belowR b; replace rb := rb.belowR b; replace rd := rd.belowR b; replace rp := rp.belowR b; replace rq := rq.belowR b; replace rr := rr.belowR b; replace ru := ru.belowR b; replace i1 := i1.below b; replace i2 := i2.below b; replace i3 := i3.below b; replace cp := cp.below b; replace cq := cq.below b; replace cr := cr.below b; replace cu := cu.below b; replace hc := seven_rows ra rb rd rp rq rr ru; clear b))
    all_goals
      go_wp2_with fail
      clear c1 c2 c3
      replace hB := on_ hB (dr_ _)
      replace ra := ra.drew
      replace rb := rb.drew
      replace rd := rd.drew
      replace rp := rp.drew
      replace rq := rq.drew
      replace rr := rr.drew
      replace ru := ru.drew
      replace i1 := i1.below (dr_ _)
      replace i2 := i2.below (dr_ _)
      replace i3 := i3.below (dr_ _)
      replace cp := cp.below (dr_ _)
      replace cq := cq.below (dr_ _)
      replace cr := cr.below (dr_ _)
      replace cu := cu.below (dr_ _)
      replace hc := seven_rows ra rb rd rp rq rr ru
      go_region_held3 (fun wx => wx.cell? ⟨w.heap.size, 0, none⟩ = some (.bool s) ∧ wx.cell? ⟨w.heap.size, 1, none⟩ = some (.slice A n c) ∧ wx.cell? ⟨w.heap.size + 1, 0, none⟩ = some (.bool s') ∧ wx.cell? ⟨w.heap.size + 1, 1, none⟩ = some (.slice A' n' c') ∧ wx.cell? ⟨w.heap.size + 1 + 1, 0, none⟩ = some (.bool s'') ∧ wx.cell? ⟨w.heap.size + 1 + 1, 1, none⟩ = some (.slice A'' n'' c'') ∧ wx.cell? ⟨gp, 0, none⟩ = some (.bool tp) ∧ wx.cell? ⟨gp, 1, none⟩ = some (.slice Bp np dp) ∧ wx.cell? ⟨gq, 0, none⟩ = some (.bool tq) ∧ wx.cell? ⟨gq, 1, none⟩ = some (.slice Bq nq dq) ∧ wx.cell? ⟨gr, 0, none⟩ = some (.bool tr) ∧ wx.cell? ⟨gr, 1, none⟩ = some (.slice Br nr dr) ∧ wx.cell? ⟨gu, 0, none⟩ = some (.bool tu) ∧ wx.cell? ⟨gu, 1, none⟩ = some (.slice Bu nu du)) (with_reducible exact hc) (first
        | (go_at_call_of 17 (Value.agg #[Value.bool s, Value.slice A n c]); with_reducible refine (addV i1 i2 (by omega) (by omega)).mono ?_; rintro e wn ⟨o1, rfl, d1, b⟩; replace hB := on_ hB b; replace ra := ra.belowR b; replace rb := rb.belowR b; replace rd := rd.belowR b; replace rp := rp.belowR b; replace rq := rq.belowR b; replace rr := rr.belowR b; replace ru := ru.belowR b; replace i1 := i1.below b; replace i2 := i2.below b; replace i3 := i3.below b; replace cp := cp.below b; replace cq := cq.below b; replace cr := cr.below b; replace cu := cu.below b; replace hc := seven_rows ra rb rd rp rq rr ru; clear b)
        | (go_at_call_of 17 o1; with_reducible refine (addV (d1.iv HZ.out.2.2.2) i3 (by omega) (by omega)).mono ?_; rintro e wn ⟨o2, rfl, d2, b⟩; replace hB := on_ hB b; replace ra := ra.belowR b; replace rb := rb.belowR b; replace rd := rd.belowR b; replace rp := rp.belowR b; replace rq := rq.belowR b; replace rr := rr.belowR b; replace ru := ru.belowR b; replace i1 := i1.below b; replace i2 := i2.below b; replace i3 := i3.below b; replace cp := cp.below b; replace cq := cq.below b; replace cr := cr.below b; replace cu := cu.below b; replace hc := seven_rows ra rb rd rp rq rr ru; clear b)
        | (go_at_call_of 17 (Value.agg #[Value.bool s', Value.slice A' n' c']); with_reducible refine (addV i2 i3 (by omega) (by omega)).mono ?_; rintro e wn ⟨o3, rfl, d3, b⟩; replace hB := on_ hB b; replace ra := ra.belowR b; replace rb := rb.belowR b; replace rd := rd.belowR b; replace rp := rp.belowR b; replace rq := rq.belowR b; replace rr := rr.belowR b; replace ru := ru.belowR b; replace i1 := i1.below b; replace i2 := i2.below b; replace i3 := i3.below b; replace cp := cp.below b; replace cq := cq.below b; replace cr := cr.below b; replace cu := cu.below b; replace hc := seven_rows ra rb rd rp rq rr ru; replace d2 := d2.below b; clear b)
        | (go_at_call_of 17 o3; with_reducible refine (addV i1 (d3.iv HZ.out.2.2.1) (by omega) (by omega)).mono ?_; rintro e wn ⟨o4, rfl, d4, b⟩; replace hB := on_ hB b; replace ra := ra.belowR b; replace rb := rb.belowR b; replace rd := rd.belowR b; replace rp := rp.belowR b; replace rq := rq.belowR b; replace rr := rr.belowR b; replace ru := ru.belowR b; replace i1 := i1.below b; replace i2 := i2.below b; replace i3 := i3.below b; replace cp := cp.below b; replace cq := cq.below b; replace cr := cr.below b; replace cu := cu.below b; replace hc := seven_rows ra rb rd rp rq rr ru; replace d2 := d2.below b; clear b)
        | (go_at_call_of 8 o2; with_reducible refine (sameV d2 (by rw [Int.add_assoc]; exact d4) HY.out.2.1 (by omega)).mono ?_; rintro e wn ⟨rfl, b⟩; replace hB := on_ hB b; replace ra := ra.belowR b; replace rb := rb.belowR b; replace rd := rd.belowR b; replace rp := rp.belowR b; replace rq := rq.belowR b; replace rr := rr.belowR b; replace ru := ru.belowR b; replace i1 := i1.below b; replace i2 := i2.below b; replace i3 := i3.below b; replace cp := cp.below b; replace cq := cq.below b; replace cr := cr.below b; replace cu := cu.below b; replace hc := seven_rows ra rb rd rp rq rr ru; clear b)
        | (go_at_call 19; with_reducible refine (subV i1 i1 (by omega) (by omega)).mono ?_; rintro e wn ⟨o5, rfl, d5, b⟩; replace hB := on_ hB b; replace ra := ra.belowR b; replace rb := rb.belowR b; replace rd := rd.belowR b; replace rp := rp.belowR b; replace rq := rq.belowR b; replace rr := rr.belowR b; replace ru := ru.belowR b; replace i1 := i1.below b; replace i2 := i2.below b; replace i3 := i3.below b; replace cp := cp.below b; replace cq := cq.below b; replace cr := cr.below b; replace cu := cu.below b; replace hc := seven_rows ra rb rd rp rq rr ru; clear b)
        | (go_at_call 11; with_reducible refine (signV (d5.iv HY.out.2.2) (by omega)).mono ?_; rintro e wn ⟨rfl, b⟩; replace hB := on_ hB b; replace ra := ra.belowR b; replace rb := rb.belowR b; replace rd := rd.belowR b; replace rp := rp.belowR b; replace rq := rq.belowR b; replace rr := rr.belowR b; replace ru := ru.belowR b; replace i1 := i1.below b; replace i2 := i2.below b; replace i3 := i3.below b; replace cp := cp.below b; replace cq := cq.below b; replace cr := cr.below b; replace cu := cu.below b; replace hc := seven_rows ra rb rd rp rq rr ru; clear b; rw [show sgz (x - x) = 0 by rw [Int.sub_self]; decide])
        | (go_at_call 15; with_reducible refine (cmpV i1 i2 (by omega) (by omega)).mono ?_; rintro e wn ⟨rfl, b⟩; replace hB := on_ hB b; replace ra := ra.belowR b; replace rb := rb.belowR b; replace rd := rd.belowR b; replace rp := rp.belowR b; replace rq := rq.belowR b; replace rr := rr.belowR b; replace ru := ru.belowR b; replace i1 := i1.below b; replace i2 := i2.below b; replace i3 := i3.below b; replace cp := cp.below b; replace cq := cq.below b; replace cr := cr.below b; replace cu := cu.below b; replace hc := seven_rows ra rb rd rp rq rr ru; clear b; rw [← HK.out])
        | (go_at_call 15; with_reducible refine (cmpV i2 i1 (by omega) (by omega)).mono ?_; rintro e wn ⟨rfl, b⟩; replace hB := on_ hB b; replace ra := ra.belowR b; replace rb := rb.belowR b; replace rd := rd.belowR b; replace rp := rp.belowR b; replace rq := rq.belowR b; replace rr := rr.belowR b; replace ru := ru.belowR b; replace i1 := i1.below b; replace i2 := i2.below b; replace i3 := i3.below b; replace cp := cp.below b; replace cq := cq.below b; replace cr := cr.below b; replace cu := cu.below b; replace hc := seven_rows ra rb rd rp rq rr ru; clear b; rw [HA.out]))
      all_goals
        go_wp2_with fail
        go_ret
        exact ⟨rfl, hB⟩
end Go.Proofs.Ytdkfnbpdbpmibaa
