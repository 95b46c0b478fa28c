/- The walk of the law of the signs of whole numbers. -/
import Derived.Test.YtdkfnbpdbpmibaaLwB
namespace Go.Proofs.Ytdkfnbpdbpmibaa
open Go.RowKit

theorem sgz_mul (x y : Int) : sgz (x * y) = sgz x * sgz y := by
  rcases Int.lt_trichotomy x 0 with h | h | h <;> rcases Int.lt_trichotomy y 0 with g | g | g
  · have := Int.mul_pos_of_neg_of_neg h g; unfold sgz; simp [h, g, this, Int.not_lt.2 (Int.le_of_lt this)]
  · subst g; simp [sgz]
  · have := Int.mul_neg_of_neg_of_pos h g; unfold sgz; simp [h, g, this, Int.not_lt.2 (Int.le_of_lt g)]
  · subst h; simp [sgz]
  · subst h; simp [sgz]
  · subst h; simp [sgz]
  · have := Int.mul_neg_of_pos_of_neg h g; unfold sgz; simp [h, g, this, Int.not_lt.2 (Int.le_of_lt h)]
  · subst g; simp [sgz]
  · have := Int.mul_pos h g; unfold sgz; simp [h, g, this, Int.not_lt.2 (Int.le_of_lt this), Int.not_lt.2 (Int.le_of_lt h), Int.not_lt.2 (Int.le_of_lt g)]
theorem sgz_add (x y : Int) (h : sgz x = sgz y) : sgz (x + y) = sgz x := by
  unfold sgz at *
  split at h <;> split at h <;> (repeat' split at h) <;> (repeat' split) <;> omega
theorem sgz_bd (x : Int) : -1 ≤ sgz x ∧ sgz x ≤ 1 := by unfold sgz; split <;> (try split) <;> omega
theorem three_boxes {w : World} {g g' g'' : Nat} {e e' e'' : TypeId} {a0 a1 b0 b1 c0 c1 : Value} (h : Row w g e #[a0, a1]) (h' : Row w g' e' #[b0, b1]) (h'' : Row w g'' e'' #[c0, c1]) :
    w.cell? ⟨g, 0, none⟩ = some a0 ∧ w.cell? ⟨g, 1, none⟩ = some a1 ∧ w.cell? ⟨g', 0, none⟩ = some b0 ∧ w.cell? ⟨g', 1, none⟩ = some b1 ∧ w.cell? ⟨g'', 0, none⟩ = some c0 ∧ w.cell? ⟨g'', 1, none⟩ = some c1 :=
  ⟨(box_facts h).1, (box_facts h).2.1, (box_facts h').1, (box_facts h').2.1, (box_facts h'').1, (box_facts h'').2.1⟩

set_option maxHeartbeats 3200000 in
theorem signs_any (s s' : Bool) (A A' : Option Addr) (n n' : Nat) (xs ys : List Int) (c c' : Nat) (w : World) (hr : RdS w .u64 A n xs) (hr' : RdS w .u64 A' n' ys) (hc : n ≤ c) (hc' : n' ≤ c')
    (hx : Dg B64 xs) (hy : Dg B64 ys) :
    Calls Try.prog 5 #[.agg #[.bool s, .slice A n c], .agg #[.bool s', .slice A' n' c']] w fun e w' => e = .returned (.bool true) ∧ Below w.heap.size w w' := by
  obtain ⟨ra, rb, hB⟩ := new2 w 24 24 #[.bool s, .slice A n c] #[.bool s', .slice A' n' c']
  by_cases h1 : 40 < n
  · go_enter Try.func5, Try.ntmps5
    go_wp2_with fail
    generalize (w.alloc (.cells #[.bool s, .slice A n c] 24)).alloc (.cells #[.bool s', .slice A' n' c'] 24) = W at *
    refine (awake_any W).mono ?_
    rintro e w1 ⟨rfl, b⟩
    have ha := box_facts (ra.belowR b)
    have hb := box_facts (rb.belowR b)
    go_wp2_with fail
    go_ret
    exact ⟨rfl, on_ hB b⟩
  · by_cases h2 : 40 < n'
    · go_enter Try.func5, Try.ntmps5
      go_wp2_with fail
      generalize (w.alloc (.cells #[.bool s, .slice A n c] 24)).alloc (.cells #[.bool s', .slice A' n' c'] 24) = W at *
      refine (awake_any W).mono ?_
      rintro e w1 ⟨rfl, b⟩
      have ha := box_facts (ra.belowR b)
      have hb := box_facts (rb.belowR b)
      go_wp2_with fail
      go_ret
      exact ⟨rfl, on_ hB b⟩
    · have i1 : IV w (.agg #[.bool s, .slice A n c]) (zi s xs) 40 := ⟨s, xs, A, c, by rw [hr.len], by rw [hr.len]; exact hc, by rw [hr.len]; exact hr, hx, rfl, by rw [hr.len]; omega⟩
      have i2 : IV w (.agg #[.bool s', .slice A' n' c']) (zi s' ys) 40 := ⟨s', ys, A', c', by rw [hr'.len], by rw [hr'.len]; exact hc', by rw [hr'.len]; exact hr', hy, rfl, by rw [hr'.len]; omega⟩
      generalize zi s xs = x at *
      generalize zi s' ys = y at *
      have HZ := Lib.hid (show Sz (x - y) 41 ∧ Sz (-x) 41 ∧ Sz x 41 from ⟨by rw [Int.sub_eq_add_neg]; exact i1.sz.add i2.sz.neg (Nat.le_refl _), i1.sz.neg.mono (by omega), i1.sz.mono (by omega)⟩)
      have HP := Lib.hid (show Sz (x * y) 80 ∧ Sz (x + y) 41 from ⟨i1.sz.mul i2.sz (by omega), i1.sz.add i2.sz (Nat.le_refl _)⟩)
      have HS := Lib.hid (sgz_mul x y)
      have HA := Lib.hid (sgz_add x y)
      have wm : IntKind.i64.wrap (sgz x * sgz y) = sgz x * sgz y := by
        have p1 := sgz_bd (x * y)
        rw [sgz_mul] at p1
        exact IntWalk.i64_in _ (by omega)
      replace i1 := i1.below hB
      replace i2 := i2.below hB
      clear hr hr' hc hc' hx hy
      go_enter Try.func5, Try.ntmps5
      go_wp2_with fail
      generalize (w.alloc (.cells #[.bool s, .slice A n c] 24)).alloc (.cells #[.bool s', .slice A' n' c'] 24) = W at *
      refine (awake_any W).mono ?_
      rintro e w1 ⟨rfl, b⟩
      replace hB := on_ hB b; replace ra := ra.belowR b; replace rb := rb.belowR b; replace i1 := i1.below b; replace i2 := i2.below b; clear b
      have hc := two_boxes ra rb
      go_wp2_with fail
      refine (mulV i1 i2 (by omega) (by omega)).mono ?_
      rintro e w2 ⟨vp, rfl, cp, b⟩
      replace hB := on_ hB b; replace ra := ra.belowR b; replace rb := rb.belowR b; replace i1 := i1.below b; replace i2 := i2.below b; clear b
      obtain ⟨tp, Bp, np, dp, rfl⟩ := cp.shape
      replace hc := two_boxes ra rb
      go_wp2_with fail
      have rp := Row.new w2 24 #[.bool tp, .slice Bp np dp]
      replace hB := on_ hB (al_ w2 (.cells #[.bool tp, .slice Bp np dp] 24))
      replace ra := ra.allocR (.cells #[.bool tp, .slice Bp np dp] 24)
      replace rb := rb.allocR (.cells #[.bool tp, .slice Bp np dp] 24)
      replace i1 := i1.below (al_ w2 (.cells #[.bool tp, .slice Bp np dp] 24))
      replace i2 := i2.below (al_ w2 (.cells #[.bool tp, .slice Bp np dp] 24))
      replace cp := cp.below (al_ w2 (.cells #[.bool tp, .slice Bp np dp] 24))
      generalize w2.alloc (.cells #[.bool tp, .slice Bp np dp] 24) = W2 at *
      generalize w2.heap.size = gp at *
      replace hB := on_ hB (dr_ _)
      replace ra := ra.drew
      replace rb := rb.drew
      replace rp := rp.drew
      replace i1 := i1.below (dr_ _)
      replace i2 := i2.below (dr_ _)
      replace cp := cp.below (dr_ _)
      replace hc := three_boxes ra rb rp
      obtain ⟨sx, hsx⟩ : ∃ t, t = sgz x := ⟨_, rfl⟩
      obtain ⟨sy, hsy⟩ : ∃ t, t = sgz y := ⟨_, rfl⟩
      have HX := Lib.hid hsx
      have HY := Lib.hid hsy
      rw [← hsx, ← hsy] at HS HA wm
      clear hsx hsy
      go_region_held3 (fun wx => wx.cell? ⟨w.heap.size, 0, none⟩ = some (.bool s) ∧ wx.cell? ⟨w.heap.size, 1, none⟩ = some (.slice A n c) ∧ wx.cell? ⟨w.heap.size + 1, 0, none⟩ = some (.bool s') ∧ wx.cell? ⟨w.heap.size + 1, 1, none⟩ = some (.slice A' n' c') ∧ wx.cell? ⟨gp, 0, none⟩ = some (.bool tp) ∧ wx.cell? ⟨gp, 1, none⟩ = some (.slice Bp np dp)) (exact hc) (first
        | (go_at_call_of 11 (Value.agg #[Value.bool s, Value.slice A n c]); refine (signV i1 (by omega)).mono ?_; rintro e wn ⟨rfl, b⟩; replace hB := on_ hB b; replace ra := ra.belowR b; replace rb := rb.belowR b; replace i1 := i1.below b; replace i2 := i2.below b; replace rp := rp.belowR b; replace cp := cp.below b; replace hc := three_boxes ra rb rp; clear b; rw [← HX.out])
        | (go_at_call_of 11 (Value.agg #[Value.bool s', Value.slice A' n' c']); refine (signV i2 (by omega)).mono ?_; rintro e wn ⟨rfl, b⟩; replace hB := on_ hB b; replace ra := ra.belowR b; replace rb := rb.belowR b; replace i1 := i1.below b; replace i2 := i2.below b; replace rp := rp.belowR b; replace cp := cp.below b; replace hc := three_boxes ra rb rp; clear b; rw [← HY.out]))

      all_goals
        by_cases hs : sx = sy
        · subst hs
          go_wp2_with fail
          refine (signV (cp.iv HP.out.1) (by omega)).mono ?_
          rintro e wn ⟨rfl, b⟩
          replace hB := on_ hB b; replace ra := ra.belowR b; replace rb := rb.belowR b; replace i1 := i1.below b; replace i2 := i2.below b; replace rp := rp.belowR b; replace cp := cp.below b; replace hc := three_boxes ra rb rp; clear b
          rw [HS.out]
          go_wp2_with fail
          refine (addV i1 i2 (by omega) (by omega)).mono ?_
          rintro e wn ⟨va, rfl, ca, b⟩
          replace hB := on_ hB b; replace ra := ra.belowR b; replace rb := rb.belowR b; replace i1 := i1.below b; replace i2 := i2.below b; replace rp := rp.belowR b; replace cp := cp.below b; replace hc := three_boxes ra rb rp; clear b
          go_wp2_with fail
          refine (signV (ca.iv HP.out.2) (by omega)).mono ?_
          rintro e wn ⟨rfl, b⟩
          replace hB := on_ hB b; replace ra := ra.belowR b; replace rb := rb.belowR b; replace i1 := i1.below b; replace i2 := i2.below b; replace rp := rp.belowR b; replace cp := cp.below b; replace hc := three_boxes ra rb rp; clear b
          rw [HA.out (by simp)]
          go_wp2_with fail
          replace hB := on_ hB (dr_ _)
          replace ra := ra.drew
          replace rb := rb.drew
          replace rp := rp.drew
          replace i1 := i1.below (dr_ _)
          replace i2 := i2.below (dr_ _)
          replace cp := cp.below (dr_ _)
          replace hc := three_boxes ra rb rp
          go_region_held3 (fun wx => wx.cell? ⟨w.heap.size, 0, none⟩ = some (.bool s) ∧ wx.cell? ⟨w.heap.size, 1, none⟩ = some (.slice A n c) ∧ wx.cell? ⟨w.heap.size + 1, 0, none⟩ = some (.bool s') ∧ wx.cell? ⟨w.heap.size + 1, 1, none⟩ = some (.slice A' n' c') ∧ wx.cell? ⟨gp, 0, none⟩ = some (.bool tp) ∧ wx.cell? ⟨gp, 1, none⟩ = some (.slice Bp np dp)) (exact hc) (first
            | (go_at_call 15; refine (cmpV i1 i2 (by omega) (by omega)).mono ?_; rintro e wn ⟨rfl, b⟩; replace hB := on_ hB b; replace ra := ra.belowR b; replace rb := rb.belowR b; replace i1 := i1.below b; replace i2 := i2.below b; replace rp := rp.belowR b; replace cp := cp.below b; replace hc := three_boxes ra rb rp; clear b)
            | (go_at_call 19; refine (subV i1 i2 (by omega) (by omega)).mono ?_; rintro e wn ⟨vd, rfl, cd, b⟩; replace hB := on_ hB b; replace ra := ra.belowR b; replace rb := rb.belowR b; replace i1 := i1.below b; replace i2 := i2.below b; replace rp := rp.belowR b; replace cp := cp.below b; replace hc := three_boxes ra rb rp; clear b)
            | (go_at_call 11; refine (signV (cd.iv HZ.out.1) (by omega)).mono ?_; rintro e wn ⟨rfl, b⟩; replace hB := on_ hB b; replace ra := ra.belowR b; replace rb := rb.belowR b; replace i1 := i1.below b; replace i2 := i2.below b; replace rp := rp.belowR b; replace cp := cp.below b; replace hc := three_boxes ra rb rp; clear b)
            | (go_at_call_of 13 (Value.agg #[Value.bool s, Value.slice A n c]); refine (negV i1 (by omega)).mono ?_; rintro e wn ⟨v1, rfl, c1, b⟩; replace hB := on_ hB b; replace ra := ra.belowR b; replace rb := rb.belowR b; replace i1 := i1.below b; replace i2 := i2.below b; replace rp := rp.belowR b; replace cp := cp.below b; replace hc := three_boxes ra rb rp; clear b)
            | (go_at_call_of 13 v1; refine (negV (c1.iv HZ.out.2.1) (by omega)).mono ?_; rintro e wn ⟨v2, rfl, c2, b⟩; replace hB := on_ hB b; replace ra := ra.belowR b; replace rb := rb.belowR b; replace i1 := i1.below b; replace i2 := i2.below b; replace rp := rp.belowR b; replace cp := cp.below b; replace hc := three_boxes ra rb rp; clear b)
            | (go_at_call 9; refine (plainV i1 (by omega)).mono ?_; rintro e wn ⟨v3, rfl, c3, b⟩; replace hB := on_ hB b; replace ra := ra.belowR b; replace rb := rb.belowR b; replace i1 := i1.below b; replace i2 := i2.below b; replace rp := rp.belowR b; replace cp := cp.below b; replace hc := three_boxes ra rb rp; replace c2 := c2.below b; clear b)
            | (go_at_call 8; refine (sameV c2 (by rw [Int.neg_neg]; exact c3) (by rw [Int.neg_neg]; exact HZ.out.2.2) (by omega)).mono ?_; rintro e wn ⟨rfl, b⟩; replace hB := on_ hB b; replace ra := ra.belowR b; replace rb := rb.belowR b; replace i1 := i1.below b; replace i2 := i2.below b; replace rp := rp.belowR b; replace cp := cp.below b; replace hc := three_boxes ra rb rp; clear b))
          all_goals
            go_wp2_with fail
            go_ret
            exact ⟨rfl, hB⟩

        · have HN := Lib.hid hs
          go_wp2_with fail
          refine (signV (cp.iv HP.out.1) (by omega)).mono ?_
          rintro e wn ⟨rfl, b⟩
          replace hB := on_ hB b; replace ra := ra.belowR b; replace rb := rb.belowR b; replace i1 := i1.below b; replace i2 := i2.below b; replace rp := rp.belowR b; replace cp := cp.below b; replace hc := three_boxes ra rb rp; clear b
          rw [HS.out]
          go_wp2_with fail
          replace hB := on_ hB (dr_ _)
          replace ra := ra.drew
          replace rb := rb.drew
          replace rp := rp.drew
          replace i1 := i1.below (dr_ _)
          replace i2 := i2.below (dr_ _)
          replace cp := cp.below (dr_ _)
          replace hc := three_boxes ra rb rp
          go_region_held3 (fun wx => wx.cell? ⟨w.heap.size, 0, none⟩ = some (.bool s) ∧ wx.cell? ⟨w.heap.size, 1, none⟩ = some (.slice A n c) ∧ wx.cell? ⟨w.heap.size + 1, 0, none⟩ = some (.bool s') ∧ wx.cell? ⟨w.heap.size + 1, 1, none⟩ = some (.slice A' n' c') ∧ wx.cell? ⟨gp, 0, none⟩ = some (.bool tp) ∧ wx.cell? ⟨gp, 1, none⟩ = some (.slice Bp np dp)) (exact hc) (first
            | (go_at_call 15; refine (cmpV i1 i2 (by omega) (by omega)).mono ?_; rintro e wn ⟨rfl, b⟩; replace hB := on_ hB b; replace ra := ra.belowR b; replace rb := rb.belowR b; replace i1 := i1.below b; replace i2 := i2.below b; replace rp := rp.belowR b; replace cp := cp.below b; replace hc := three_boxes ra rb rp; clear b)
            | (go_at_call 19; refine (subV i1 i2 (by omega) (by omega)).mono ?_; rintro e wn ⟨vd, rfl, cd, b⟩; replace hB := on_ hB b; replace ra := ra.belowR b; replace rb := rb.belowR b; replace i1 := i1.below b; replace i2 := i2.below b; replace rp := rp.belowR b; replace cp := cp.below b; replace hc := three_boxes ra rb rp; clear b)
            | (go_at_call 11; refine (signV (cd.iv HZ.out.1) (by omega)).mono ?_; rintro e wn ⟨rfl, b⟩; replace hB := on_ hB b; replace ra := ra.belowR b; replace rb := rb.belowR b; replace i1 := i1.below b; replace i2 := i2.below b; replace rp := rp.belowR b; replace cp := cp.below b; replace hc := three_boxes ra rb rp; clear b)
            | (go_at_call_of 13 (Value.agg #[Value.bool s, Value.slice A n c]); refine (negV i1 (by omega)).mono ?_; rintro e wn ⟨v1, rfl, c1, b⟩; replace hB := on_ hB b; replace ra := ra.belowR b; replace rb := rb.belowR b; replace i1 := i1.below b; replace i2 := i2.below b; replace rp := rp.belowR b; replace cp := cp.below b; replace hc := three_boxes ra rb rp; clear b)
            | (go_at_call_of 13 v1; refine (negV (c1.iv HZ.out.2.1) (by omega)).mono ?_; rintro e wn ⟨v2, rfl, c2, b⟩; replace hB := on_ hB b; replace ra := ra.belowR b; replace rb := rb.belowR b; replace i1 := i1.below b; replace i2 := i2.below b; replace rp := rp.belowR b; replace cp := cp.below b; replace hc := three_boxes ra rb rp; clear b)
            | (go_at_call 9; refine (plainV i1 (by omega)).mono ?_; rintro e wn ⟨v3, rfl, c3, b⟩; replace hB := on_ hB b; replace ra := ra.belowR b; replace rb := rb.belowR b; replace i1 := i1.below b; replace i2 := i2.below b; replace rp := rp.belowR b; replace cp := cp.below b; replace hc := three_boxes ra rb rp; replace c2 := c2.below b; clear b)
            | (go_at_call 8; refine (sameV c2 (by rw [Int.neg_neg]; exact c3) (by rw [Int.neg_neg]; exact HZ.out.2.2) (by omega)).mono ?_; rintro e wn ⟨rfl, b⟩; replace hB := on_ hB b; replace ra := ra.belowR b; replace rb := rb.belowR b; replace i1 := i1.below b; replace i2 := i2.below b; replace rp := rp.belowR b; replace cp := cp.below b; replace hc := three_boxes ra rb rp; clear b))
          all_goals
            go_wp2_with fail
            go_ret
            exact ⟨rfl, hB⟩

end Go.Proofs.Ytdkfnbpdbpmibaa
