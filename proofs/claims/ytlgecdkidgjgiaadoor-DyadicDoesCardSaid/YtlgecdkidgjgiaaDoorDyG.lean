/- The walks of layer 6's products, and of which of two is less. -/
import Derived.Test.YtlgecdkidgjgiaaDoorDyF
namespace Go.Proofs.YtlgecdkidgjgiaaDoor
open Go.RowKit

set_option maxHeartbeats 1600000 in
theorem dmulV {v v' : Value} {m m' e e' : Int} {k : Nat} {w : World} (h : IDy w v m e k) (h' : IDy w v' m' e' k) (hk : k ≤ 500) (ht : TabOk w) :
    Calls Tryd.prog 12 #[v, v'] w fun ev w' => ∃ u, ev = .returned u ∧ Res w' u (mul2 m e m' e') ∧ Below w.heap.size w w' := by
  have i1 := h
  have i2 := h'
  obtain ⟨t, B, n, d, rfl, hv⟩ := h.shape
  obtain ⟨t', B', n', d', rfl, hv'⟩ := h'.shape
  clear h h'
  obtain ⟨ra, rb, rc, hw, hs⟩ := new3 w 29 29 29 #[.bool t, .slice B n d, .int .i64 e] #[.bool t', .slice B' n' d', .int .i64 e'] #[.bool false, .slice none 0 0, .int .i64 0]
  have hsz : w.heap.size + 2 < (((w.alloc (.cells #[.bool t, .slice B n d, .int .i64 e] 29)).alloc (.cells #[.bool t', .slice B' n' d', .int .i64 e'] 29)).alloc (.cells #[.bool false, .slice none 0 0, .int .i64 0] 29)).heap.size := by omega
  clear hs
  by_cases hm : May m e
  · have d1 : decide (May m e) = true := decide_eq_true hm
    by_cases hm' : May m' e'
    · have d2 : decide (May m' e') = true := decide_eq_true hm'
      have HA := Lib.hid (show mul2 m e m' e' = mk (m * m') (e + e') from if_pos ⟨hm, hm'⟩)
      have q1 := hm.1
      have q2 := hm.2.1
      have q3 := hm'.1
      have q4 := hm'.2.1
      obtain ⟨K, hK, sz⟩ : ∃ K, K ≤ 1000 ∧ Sz (m * m') K := ⟨k + k, by omega, Sz.mul hv.sz hv'.sz (Nat.le_refl _)⟩
      have HSZ := Lib.hid sz
      clear sz
      clear hm hm'
      go_enter Tryd.func12, Tryd.ntmps12
      go_wp2_with fail
      generalize ((w.alloc (.cells #[.bool t, .slice B n d, .int .i64 e] 29)).alloc (.cells #[.bool t', .slice B' n' d', .int .i64 e'] 29)).alloc (.cells #[.bool false, .slice none 0 0, .int .i64 0] 29) = W at *
      refine (dmayV (i1.below hw) (by omega)).mono ?_
      rintro ev w1 ⟨rfl, b1⟩
      replace ra := ra.belowR b1
      replace rb := rb.belowR b1
      replace rc := rc.belowR b1
      replace hw := hw.trans (b1.mono hw.size)
      replace hsz := Nat.lt_of_lt_of_le hsz b1.size
      clear b1 W
      have hb := box3_facts rb
      go_wp2_with fail
      refine (dmayV (i2.below hw) (by omega)).mono ?_
      rintro ev w2 ⟨rfl, b1⟩
      replace ra := ra.belowR b1
      replace rb := rb.belowR b1
      replace rc := rc.belowR b1
      replace hw := hw.trans (b1.mono hw.size)
      replace hsz := Nat.lt_of_lt_of_le hsz b1.size
      clear b1 hb w1
      have ha := box3_facts ra
      have hb := box3_facts rb
      go_wp2_with fail
      refine (mulV (hv.below hw) (hv'.below hw) hk hk).mono ?_
      rintro ev w3 ⟨u, rfl, hu, b1⟩
      obtain ⟨t3, B3, n3, d3, rfl⟩ := hu.shape
      replace ra := ra.belowR b1
      replace rb := rb.belowR b1
      replace rc := (rc.belowR b1).allocR (.cells #[.bool t3, .slice B3 n3 d3] 27)
      replace hw := (hw.trans (b1.mono hw.size)).trans ((al_ w3 (.cells #[.bool t3, .slice B3 n3 d3] 27)).mono (Nat.le_trans hw.size b1.size))
      replace hu := hu.below (al_ w3 (.cells #[.bool t3, .slice B3 n3 d3] 27))
      clear b1 ha hb
      have ha := box3_facts (ra.allocR (.cells #[.bool t3, .slice B3 n3 d3] 27))
      have hb := box3_facts (rb.allocR (.cells #[.bool t3, .slice B3 n3 d3] 27))
      go_wp2_with fail
      generalize w3.alloc (.cells #[.bool t3, .slice B3 n3 d3] 27) = w4 at *
      refine (madeV (e + e') (hu.iv HSZ.out) (by omega) (by omega) (by omega) (ht.below hw)).mono ?_
      rintro ev w5 ⟨r, rfl, hres, b4⟩
      obtain ⟨t4, B4, n4, d4, e4, er, rfl⟩ := hres.shape
      replace rc := rc.belowR b4
      replace hw := hw.trans (b4.mono hw.size)
      clear ha hb ra rb b4
      have hc := box3_facts rc
      go_wp2_with fail
      exact bodyPost_ret (v := .tuple #[.agg #[.bool t4, .slice B4 n4 d4, .int .i64 e4], er]) (by simp [results, Tryd.results12, go_sem, hc]) rfl
        ⟨_, rfl, by rw [HA.out]; exact hres.set3 rc _ _ _ _ _, Below.sets3 hw (by omega) _ _ _⟩
    · have d2 : decide (May m' e') = false := decide_eq_false hm'
      have HA := Lib.hid (show mul2 m e m' e' = none from if_neg fun h => hm' h.2)
      clear hm hm'
      go_enter Tryd.func12, Tryd.ntmps12
      go_wp2_with fail
      generalize ((w.alloc (.cells #[.bool t, .slice B n d, .int .i64 e] 29)).alloc (.cells #[.bool t', .slice B' n' d', .int .i64 e'] 29)).alloc (.cells #[.bool false, .slice none 0 0, .int .i64 0] 29) = W at *
      refine (dmayV (i1.below hw) (by omega)).mono ?_
      rintro ev w1 ⟨rfl, b1⟩
      replace rb := rb.belowR b1
      replace rc := rc.belowR b1
      replace hw := hw.trans (b1.mono hw.size)
      clear b1 ra
      have hb := box3_facts rb
      go_wp2_with fail
      refine (dmayV (i2.below hw) (by omega)).mono ?_
      rintro ev w2 ⟨rfl, b1⟩
      replace rc := rc.belowR b1
      replace hw := hw.trans (b1.mono hw.size)
      clear b1 rb hb
      have hc := box3_facts rc
      go_wp2_with fail
      exact bodyPost_ret (v := .tuple #[.agg #[.bool false, .slice none 0 0, .int .i64 0], .iface 74 (.int .i64 7)]) (by simp [results, Tryd.results12, go_sem, hc]) rfl
        ⟨_, rfl, by rw [HA.out]; exact rfl, Below.sets3 hw (by omega) _ _ _⟩
  · have d1 : decide (May m e) = false := decide_eq_false hm
    have HA := Lib.hid (show mul2 m e m' e' = none from if_neg fun h => hm h.1)
    clear hm
    go_enter Tryd.func12, Tryd.ntmps12
    go_wp2_with fail
    generalize ((w.alloc (.cells #[.bool t, .slice B n d, .int .i64 e] 29)).alloc (.cells #[.bool t', .slice B' n' d', .int .i64 e'] 29)).alloc (.cells #[.bool false, .slice none 0 0, .int .i64 0] 29) = W at *
    refine (dmayV (i1.below hw) (by omega)).mono ?_
    rintro ev w1 ⟨rfl, b1⟩
    replace rc := rc.belowR b1
    replace hw := hw.trans (b1.mono hw.size)
    clear b1 ra
    have hc := box3_facts rc
    go_wp2_with fail
    exact bodyPost_ret (v := .tuple #[.agg #[.bool false, .slice none 0 0, .int .i64 0], .iface 74 (.int .i64 7)]) (by simp [results, Tryd.results12, go_sem, hc]) rfl
      ⟨_, rfl, by rw [HA.out]; exact rfl, Below.sets3 hw (by omega) _ _ _⟩

/-- which of two is less, where both may be -/
def cmp2 (m e m' e' : Int) : Int := sgz (2 ^ (e - min e e').toNat * m - 2 ^ (e' - min e e').toNat * m')
set_option maxHeartbeats 1600000 in
theorem dcmpV {v v' : Value} {m m' e e' : Int} {k : Nat} {w : World} (h : IDy w v m e k) (h' : IDy w v' m' e' k) (hk : k ≤ 1024) :
    Calls Tryd.prog 20 #[v, v'] w fun ev w' => ((May m e ∧ May m' e' ∧ ev = .returned (.tuple #[.int .i64 (cmp2 m e m' e'), .nilIface])) ∨ (¬ (May m e ∧ May m' e') ∧ ev = .returned (.tuple #[.int .i64 0, .iface 74 (.int .i64 7)]))) ∧ Below w.heap.size w w' := by
  have i1 := h
  have i2 := h'
  obtain ⟨t, B, n, d, rfl, hv⟩ := h.shape
  obtain ⟨t', B', n', d', rfl, hv'⟩ := h'.shape
  clear h h' hv hv'
  obtain ⟨ra, rb, hw⟩ := new2 w 29 29 #[.bool t, .slice B n d, .int .i64 e] #[.bool t', .slice B' n' d', .int .i64 e']
  go_enter Tryd.func20, Tryd.ntmps20
  go_wp2_with fail
  generalize (w.alloc (.cells #[.bool t, .slice B n d, .int .i64 e] 29)).alloc (.cells #[.bool t', .slice B' n' d', .int .i64 e'] 29) = W at *
  refine (bothV (i1.below hw) (i2.below hw) hk).mono ?_
  rintro ev w1 ⟨u, rfl, ⟨t1, B1, n1, c1, t2, B2, n2, c2, E, er, rfl, hcase⟩, b1⟩
  replace hw := hw.trans (b1.mono hw.size)
  have b2 := below_new2 w1 (.cells #[.bool t1, .slice B1 n1 c1] 27) (.cells #[.bool t2, .slice B2 n2 c2] 27)
  replace hw := hw.trans (b2.mono hw.size)
  clear b1 ra rb
  go_wp2_with fail
  generalize (w1.alloc (.cells #[.bool t1, .slice B1 n1 c1] 27)).alloc (.cells #[.bool t2, .slice B2 n2 c2] 27) = w2 at *
  rcases hcase with ⟨hm, hm', rfl, rfl, hx, hy⟩ | ⟨hno, rfl, rfl, ex, ey⟩
  · have q0 : -16384 ≤ min e e' ∧ min e e' ≤ 16384 := by have := hm.1; have := hm.2.1; have := hm'.1; have := hm'.2.1; omega
    have sx := hm.shl (N := (e - min e e').toNat) (E := min e e') (by omega) q0.1
    have sy := hm'.shl (N := (e' - min e e').toNat) (E := min e e') (by omega) q0.1
    refine (cmpV ((hx.below b2).iv sx) ((hy.below b2).iv sy) (by omega) (by omega)).mono ?_
    rintro ev w3 ⟨rfl, b3⟩
    go_wp2_with fail
    go_ret2
    exact ⟨.inl ⟨hm, hm', rfl⟩, hw.trans (b3.mono hw.size)⟩
  · rw [ex, ey]
    have z0 : CV w2 (.agg #[.bool false, .slice none 0 0]) 0 := ⟨false, [], none, 0, rfl, Nat.le_refl _, ⟨rfl, fun h => absurd h (by simp)⟩, canI_zero⟩
    refine (cmpV (z0.iv sz_zero) (z0.iv sz_zero) (by omega) (by omega)).mono ?_
    rintro ev w3 ⟨rfl, b3⟩
    rw [show sgz (0 - 0) = 0 by decide]
    go_wp2_with fail
    go_ret2
    exact ⟨.inr ⟨hno, rfl⟩, hw.trans (b3.mono hw.size)⟩
end Go.Proofs.YtlgecdkidgjgiaaDoor
