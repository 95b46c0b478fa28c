/- The reference's sums, products and comparisons of dyadic numbers; is an answer the document's? -/
import Derived.Test.YtlgecdkidgjgiaaDoorRatC
import Derived.Test.YtlgecdkidgjgiaaDoorLw6A
import Derived.Test.YtlgecdkidgjgiaaDoorCode
namespace Go.Proofs.YtlgecdkidgjgiaaDoor
open Go.RowKit

set_option maxHeartbeats 1600000 in
theorem rAdd_no {v v' : Value} {m m' e e' : Int} {k : Nat} {w : World} (h : IDy w v m e k) (h' : IDy w v' m' e' k) (hk : k ≤ 1000) (q : ¬ (May m e ∧ May m' e')) :
    Calls Tryd.prog 32 #[v, v'] w fun ev w' => ∃ u, ev = .returned u ∧ ResB w' u (add2 m e m' e') ∧ Below w.heap.size w w' := by
  have HA := Lib.hid (show add2 m e m' e' = none from if_neg q)
  have i1 := h
  have i2 := h'
  obtain ⟨t, B, n, d, rfl, hv⟩ := h.shape
  obtain ⟨t', B', n', d', rfl, hv'⟩ := h'.shape
  clear h h'
  obtain ⟨ra, rb, rc, hw, _⟩ := new3 w 29 29 29 #[.bool t, .slice B n d, .int .i64 e] #[.bool t', .slice B' n' d', .int .i64 e'] #[.bool false, .slice none 0 0, .int .i64 0]
  by_cases q1 : May m e
  · have d1 : decide (May m e) = true := decide_eq_true q1
    have d2 : decide (May m' e') = false := decide_eq_false fun x => q ⟨q1, x⟩
    clear q q1
    go_enter Tryd.func32, Tryd.ntmps32
    go_wp2_with fail
    generalize ((w.alloc (.cells #[.bool t, .slice B n d, .int .i64 e] 29)).alloc (.cells #[.bool t', .slice B' n' d', .int .i64 e'] 29)).alloc (.cells #[.bool false, .slice none 0 0, .int .i64 0] 29) = W at *
    refine (rmayV (i1.below hw) (by omega)).mono ?_
    rintro ev w1 ⟨rfl, b1⟩
    replace ra := ra.belowR b1
    replace rb := rb.belowR b1
    replace rc := rc.belowR b1
    replace hw := hw.trans (b1.mono hw.size)
    have fa := box3_facts ra
    have fb := box3_facts rb
    have fc := box3_facts rc
    clear b1
    go_wp2_with fail
    clear fa fb fc
    refine (rmayV (i2.below hw) (by omega)).mono ?_
    rintro ev w1 ⟨rfl, b1⟩
    replace ra := ra.belowR b1
    replace rb := rb.belowR b1
    replace rc := rc.belowR b1
    replace hw := hw.trans (b1.mono hw.size)
    have fa := box3_facts ra
    have fb := box3_facts rb
    have fc := box3_facts rc
    clear b1
    have hc := box3_facts (box3_set rc (.bool false) (.slice none 0 0) (.int .i64 0))
    go_wp2_with fail
    exact bodyPost_ret (v := .tuple #[.agg #[.bool false, .slice none 0 0, .int .i64 0], .bool false]) (by simp [results, Tryd.results32, go_sem, hc]) rfl
      ⟨_, rfl, by rw [HA.out]; exact rfl, Below.sets3 hw (by omega) _ _ _⟩
  · have d1 : decide (May m e) = false := decide_eq_false q1
    clear q q1
    go_enter Tryd.func32, Tryd.ntmps32
    go_wp2_with fail
    generalize ((w.alloc (.cells #[.bool t, .slice B n d, .int .i64 e] 29)).alloc (.cells #[.bool t', .slice B' n' d', .int .i64 e'] 29)).alloc (.cells #[.bool false, .slice none 0 0, .int .i64 0] 29) = W at *
    refine (rmayV (i1.below hw) (by omega)).mono ?_
    rintro ev w1 ⟨rfl, b1⟩
    replace ra := ra.belowR b1
    replace rb := rb.belowR b1
    replace rc := rc.belowR b1
    replace hw := hw.trans (b1.mono hw.size)
    have fa := box3_facts ra
    have fb := box3_facts rb
    have fc := box3_facts rc
    clear b1
    have hc := box3_facts (box3_set rc (.bool false) (.slice none 0 0) (.int .i64 0))
    go_wp2_with fail
    exact bodyPost_ret (v := .tuple #[.agg #[.bool false, .slice none 0 0, .int .i64 0], .bool false]) (by simp [results, Tryd.results32, go_sem, hc]) rfl
      ⟨_, rfl, by rw [HA.out]; exact rfl, Below.sets3 hw (by omega) _ _ _⟩

set_option maxRecDepth 100000 in
set_option maxHeartbeats 3200000 in
theorem rAdd_yes {v v' : Value} {m m' e e' : Int} {k : Nat} {w : World} (h : IDy w v m e k) (h' : IDy w v' m' e' k) (hk : k ≤ 1000) (q1 : May m e) (q2 : May m' e') :
    Calls Tryd.prog 32 #[v, v'] w fun ev w' => ∃ u, ev = .returned u ∧ ResB w' u (add2 m e m' e') ∧ Below w.heap.size w w' := by
  obtain ⟨E, hE⟩ : ∃ E, min e e' = E := ⟨_, rfl⟩
  have hmin := fun ats ty w => mini_run ats ty e e' E hE w
  have HE := Lib.hid (show -16384 ≤ E ∧ E ≤ 16384 by have := q1.1; have := q1.2.1; have := q2.1; have := q2.2.1; omega)
  have g1 : e - E = (((e - E).toNat : Nat) : Int) := by omega
  have g2 : e' - E = (((e' - E).toNat : Nat) : Int) := by omega
  have HB := Lib.hid (show (e - E).toNat ≤ 65536 ∧ (e' - E).toNat ≤ 65536 by have := q1.1; have := q1.2.1; have := q2.1; have := q2.2.1; omega)
  have HS := Lib.hid (And.intro (q1.shl g1 HE.out.1) (q2.shl g2 HE.out.1))
  have HA := Lib.hid (show add2 m e m' e' = mk (2 ^ (e - E).toNat * m + 2 ^ (e' - E).toNat * m') E by rw [← hE]; exact if_pos ⟨q1, q2⟩)
  have G1 := Lib.hid g1
  have G2 := Lib.hid g2
  clear g1 g2 hE
  have i1 := h
  have i2 := h'
  obtain ⟨t, B, n, d, rfl, hv⟩ := h.shape
  obtain ⟨t', B', n', d', rfl, hv'⟩ := h'.shape
  clear h h'
  obtain ⟨ra, rb, rc, hw, _⟩ := new3 w 29 29 29 #[.bool t, .slice B n d, .int .i64 e] #[.bool t', .slice B' n' d', .int .i64 e'] #[.bool false, .slice none 0 0, .int .i64 0]
  have HC := Lib.hid (And.intro q1 q2)
  have d1 : decide (May m e) = true := decide_eq_true q1
  have d2 : decide (May m' e') = true := decide_eq_true q2
  clear q1 q2
  go_enter Tryd.func32, Tryd.ntmps32
  go_wp2_with fail
  generalize ((w.alloc (.cells #[.bool t, .slice B n d, .int .i64 e] 29)).alloc (.cells #[.bool t', .slice B' n' d', .int .i64 e'] 29)).alloc (.cells #[.bool false, .slice none 0 0, .int .i64 0] 29) = W at *
  refine (rmayV (i1.below hw) (by omega)).mono ?_
  rintro ev w1 ⟨rfl, b1⟩
  replace ra := ra.belowR b1
  replace rb := rb.belowR b1
  replace rc := rc.belowR b1
  replace hw := hw.trans (b1.mono hw.size)
  have fa := box3_facts ra
  have fb := box3_facts rb
  have fc := box3_facts rc
  clear b1
  go_wp2_with fail
  clear fa fb fc
  refine (rmayV (i2.below hw) (by omega)).mono ?_
  rintro ev w1 ⟨rfl, b1⟩
  replace ra := ra.belowR b1
  replace rb := rb.belowR b1
  replace rc := rc.belowR b1
  replace hw := hw.trans (b1.mono hw.size)
  have fa := box3_facts ra
  have fb := box3_facts rb
  have fc := box3_facts rc
  clear b1
  clear fc
  go_wp2_with fail
  clear fa fb
  replace ra := ra.drew
  replace rb := rb.drew
  replace rc := rc.drew
  replace hw := hw.drew
  have hv1 := hv.below hw
  have hv2 := hv'.below hw
  replace i1 := i1.below hw
  replace i2 := i2.below hw
  clear hv hv'
  have hcl := s6 ra rb
  have hcc := True.intro
  go_region_held3 (fun wx => wx.cell? ⟨w.heap.size, 0, none⟩ = some (.bool t) ∧ wx.cell? ⟨w.heap.size, 1, none⟩ = some (.slice B n d) ∧ wx.cell? ⟨w.heap.size, 2, none⟩ = some (.int .i64 e) ∧ wx.cell? ⟨w.heap.size + 1, 0, none⟩ = some (.bool t') ∧ wx.cell? ⟨w.heap.size + 1, 1, none⟩ = some (.slice B' n' d') ∧ wx.cell? ⟨w.heap.size + 1, 2, none⟩ = some (.int .i64 e'))
    (first | with_reducible exact hcl | (with_reducible refine s6 (e := 29) (e' := 29) ?_ ?_ <;> repeat (first | with_reducible exact ra | with_reducible exact rb | with_reducible refine Row.otherJ ?_ _ _ (by omega))))
    (first
      | (go_at_call_of 65 (Value.agg #[Value.bool t, Value.slice B n d, Value.int IntKind.i64 e]); refine (atV E i1 (by omega) G1.out HB.out.1).mono ?_; rintro ev wn ⟨u1, rfl, a1, b⟩; replace ra := ra.belowR b; replace rb := rb.belowR b; replace rc := rc.belowR b; replace i1 := i1.below b; replace i2 := i2.below b; replace hv1 := hv1.below b; replace hv2 := hv2.below b; replace hw := hw.trans (b.mono hw.size); replace hcl := s6 ra rb; clear b)
      | (go_at_call_of 65 (Value.agg #[Value.bool t', Value.slice B' n' d', Value.int IntKind.i64 e']); refine (atV E i2 (by omega) G2.out HB.out.2).mono ?_; rintro ev wn ⟨u2, rfl, a2, b⟩; replace ra := ra.belowR b; replace rb := rb.belowR b; replace rc := rc.belowR b; replace i1 := i1.below b; replace i2 := i2.below b; replace hv1 := hv1.below b; replace hv2 := hv2.below b; replace hw := hw.trans (b.mono hw.size); replace hcl := s6 ra rb; replace a1 := a1.below b; clear b)
      | (go_at_call 44; refine (addD a1 a2 HS.out.1 HS.out.2 (by omega) (by omega)).mono ?_; rintro ev wn ⟨u3, rfl, a3, b⟩; replace ra := ra.belowR b; replace rb := rb.belowR b; replace rc := rc.belowR b; replace i1 := i1.below b; replace i2 := i2.below b; replace hv1 := hv1.below b; replace hv2 := hv2.below b; replace hw := hw.trans (b.mono hw.size); replace hcl := s6 ra rb; clear b)
      | (go_at_call 15; refine (rmadeD E a3 (HS.out.1.add HS.out.2 (m := 769) (by omega)) (by omega) (by have := HE.out; omega) (by have := HE.out; omega)).mono ?_; rintro ev wn ⟨u4, rfl, hres, b⟩; replace ra := ra.belowR b; replace rb := rb.belowR b; replace rc := rc.belowR b; replace i1 := i1.below b; replace i2 := i2.below b; replace hv1 := hv1.below b; replace hv2 := hv2.below b; replace hw := hw.trans (b.mono hw.size); replace hcl := s6 ra rb; obtain ⟨tu, Bu, nu, du, eu, ok, rfl⟩ := hres.shape; have hcc := box3_facts rc; clear b))
  have f1 := box3_facts (box3_set rc (.bool tu) (.slice Bu nu du) (.int .i64 eu))
  clear hcl
  go_wp2_with fail
  exact bodyPost_ret (v := .tuple #[.agg #[.bool tu, .slice Bu nu du, .int .i64 eu], .bool ok]) (by simp [results, Tryd.results32, go_sem, f1]) rfl
    ⟨_, rfl, by rw [HA.out]; exact hres.set3 rc _ _ _ _ _, Below.sets3 hw (by omega) _ _ _⟩

theorem rAddY {v v' : Value} {m m' e e' : Int} {k : Nat} {w : World} (h : IDy w v m e k) (h' : IDy w v' m' e' k) (hk : k ≤ 1000) :
    Calls Tryd.prog 32 #[v, v'] w fun ev w' => ∃ u, ev = .returned u ∧ ResB w' u (add2 m e m' e') ∧ Below w.heap.size w w' := by
  by_cases q : May m e ∧ May m' e'
  · exact rAdd_yes h h' hk q.1 q.2
  · exact rAdd_no h h' hk q

set_option maxHeartbeats 1600000 in
theorem rMul_no {v v' : Value} {m m' e e' : Int} {k : Nat} {w : World} (h : IDy w v m e k) (h' : IDy w v' m' e' k) (hk : k ≤ 1000) (q : ¬ (May m e ∧ May m' e')) :
    Calls Tryd.prog 34 #[v, v'] w fun ev w' => ∃ u, ev = .returned u ∧ ResB w' u (mul2 m e m' e') ∧ Below w.heap.size w w' := by
  have HA := Lib.hid (show mul2 m e m' e' = none from if_neg q)
  have i1 := h
  have i2 := h'
  obtain ⟨t, B, n, d, rfl, hv⟩ := h.shape
  obtain ⟨t', B', n', d', rfl, hv'⟩ := h'.shape
  clear h h'
  obtain ⟨ra, rb, rc, hw, _⟩ := new3 w 29 29 29 #[.bool t, .slice B n d, .int .i64 e] #[.bool t', .slice B' n' d', .int .i64 e'] #[.bool false, .slice none 0 0, .int .i64 0]
  by_cases q1 : May m e
  · have d1 : decide (May m e) = true := decide_eq_true q1
    have d2 : decide (May m' e') = false := decide_eq_false fun x => q ⟨q1, x⟩
    clear q q1
    go_enter Tryd.func34, Tryd.ntmps34
    go_wp2_with fail
    generalize ((w.alloc (.cells #[.bool t, .slice B n d, .int .i64 e] 29)).alloc (.cells #[.bool t', .slice B' n' d', .int .i64 e'] 29)).alloc (.cells #[.bool false, .slice none 0 0, .int .i64 0] 29) = W at *
    refine (rmayV (i1.below hw) (by omega)).mono ?_
    rintro ev w1 ⟨rfl, b1⟩
    replace ra := ra.belowR b1
    replace rb := rb.belowR b1
    replace rc := rc.belowR b1
    replace hw := hw.trans (b1.mono hw.size)
    have fa := box3_facts ra
    have fb := box3_facts rb
    have fc := box3_facts rc
    clear b1
    go_wp2_with fail
    clear fa fb fc
    refine (rmayV (i2.below hw) (by omega)).mono ?_
    rintro ev w1 ⟨rfl, b1⟩
    replace ra := ra.belowR b1
    replace rb := rb.belowR b1
    replace rc := rc.belowR b1
    replace hw := hw.trans (b1.mono hw.size)
    have fa := box3_facts ra
    have fb := box3_facts rb
    have fc := box3_facts rc
    clear b1
    have hc := box3_facts (box3_set rc (.bool false) (.slice none 0 0) (.int .i64 0))
    go_wp2_with fail
    exact bodyPost_ret (v := .tuple #[.agg #[.bool false, .slice none 0 0, .int .i64 0], .bool false]) (by simp [results, Tryd.results34, go_sem, hc]) rfl
      ⟨_, rfl, by rw [HA.out]; exact rfl, Below.sets3 hw (by omega) _ _ _⟩
  · have d1 : decide (May m e) = false := decide_eq_false q1
    clear q q1
    go_enter Tryd.func34, Tryd.ntmps34
    go_wp2_with fail
    generalize ((w.alloc (.cells #[.bool t, .slice B n d, .int .i64 e] 29)).alloc (.cells #[.bool t', .slice B' n' d', .int .i64 e'] 29)).alloc (.cells #[.bool false, .slice none 0 0, .int .i64 0] 29) = W at *
    refine (rmayV (i1.below hw) (by omega)).mono ?_
    rintro ev w1 ⟨rfl, b1⟩
    replace ra := ra.belowR b1
    replace rb := rb.belowR b1
    replace rc := rc.belowR b1
    replace hw := hw.trans (b1.mono hw.size)
    have fa := box3_facts ra
    have fb := box3_facts rb
    have fc := box3_facts rc
    clear b1
    have hc := box3_facts (box3_set rc (.bool false) (.slice none 0 0) (.int .i64 0))
    go_wp2_with fail
    exact bodyPost_ret (v := .tuple #[.agg #[.bool false, .slice none 0 0, .int .i64 0], .bool false]) (by simp [results, Tryd.results34, go_sem, hc]) rfl
      ⟨_, rfl, by rw [HA.out]; exact rfl, Below.sets3 hw (by omega) _ _ _⟩

set_option maxRecDepth 100000 in
set_option maxHeartbeats 3200000 in
theorem rMul_yes {v v' : Value} {m m' e e' : Int} {k : Nat} {w : World} (h : IDy w v m e k) (h' : IDy w v' m' e' k) (hk : k ≤ 1000) (q1 : May m e) (q2 : May m' e') :
    Calls Tryd.prog 34 #[v, v'] w fun ev w' => ∃ u, ev = .returned u ∧ ResB w' u (mul2 m e m' e') ∧ Below w.heap.size w w' := by
  have wr : IntKind.i64.wrap (e + e') = e + e' := IntWalk.i64_in _ (by have := q1.1; have := q1.2.1; have := q2.1; have := q2.2.1; omega)
  have HE := Lib.hid (show -32768 ≤ e + e' ∧ e + e' ≤ 32768 by have := q1.1; have := q1.2.1; have := q2.1; have := q2.2.1; omega)
  have HS := Lib.hid (And.intro q1.2.2 (And.intro q2.2.2 (q1.2.2.mul q2.2.2 (show 256 + 256 ≤ 512 by omega))))
  have HA := Lib.hid (show mul2 m e m' e' = mk (m * m') (e + e') from if_pos ⟨q1, q2⟩)
  have i1 := h
  have i2 := h'
  obtain ⟨t, B, n, d, rfl, hv⟩ := h.shape
  obtain ⟨t', B', n', d', rfl, hv'⟩ := h'.shape
  clear h h'
  obtain ⟨ra, rb, rc, hw, _⟩ := new3 w 29 29 29 #[.bool t, .slice B n d, .int .i64 e] #[.bool t', .slice B' n' d', .int .i64 e'] #[.bool false, .slice none 0 0, .int .i64 0]
  have HC := Lib.hid (And.intro q1 q2)
  have d1 : decide (May m e) = true := decide_eq_true q1
  have d2 : decide (May m' e') = true := decide_eq_true q2
  clear q1 q2
  go_enter Tryd.func34, Tryd.ntmps34
  go_wp2_with fail
  generalize ((w.alloc (.cells #[.bool t, .slice B n d, .int .i64 e] 29)).alloc (.cells #[.bool t', .slice B' n' d', .int .i64 e'] 29)).alloc (.cells #[.bool false, .slice none 0 0, .int .i64 0] 29) = W at *
  refine (rmayV (i1.below hw) (by omega)).mono ?_
  rintro ev w1 ⟨rfl, b1⟩
  replace ra := ra.belowR b1
  replace rb := rb.belowR b1
  replace rc := rc.belowR b1
  replace hw := hw.trans (b1.mono hw.size)
  have fa := box3_facts ra
  have fb := box3_facts rb
  have fc := box3_facts rc
  clear b1
  go_wp2_with fail
  clear fa fb fc
  refine (rmayV (i2.below hw) (by omega)).mono ?_
  rintro ev w1 ⟨rfl, b1⟩
  replace ra := ra.belowR b1
  replace rb := rb.belowR b1
  replace rc := rc.belowR b1
  replace hw := hw.trans (b1.mono hw.size)
  have fa := box3_facts ra
  have fb := box3_facts rb
  have fc := box3_facts rc
  clear b1
  clear fc
  go_wp2_with fail
  clear fa fb
  replace ra := ra.drew
  replace rb := rb.drew
  replace rc := rc.drew
  replace hw := hw.drew
  have hv1 := hv.below hw
  have hv2 := hv'.below hw
  replace i1 := i1.below hw
  replace i2 := i2.below hw
  clear hv hv'
  have hcl := s6 ra rb
  have hcc := True.intro
  go_region_held3 (fun wx => wx.cell? ⟨w.heap.size, 0, none⟩ = some (.bool t) ∧ wx.cell? ⟨w.heap.size, 1, none⟩ = some (.slice B n d) ∧ wx.cell? ⟨w.heap.size, 2, none⟩ = some (.int .i64 e) ∧ wx.cell? ⟨w.heap.size + 1, 0, none⟩ = some (.bool t') ∧ wx.cell? ⟨w.heap.size + 1, 1, none⟩ = some (.slice B' n' d') ∧ wx.cell? ⟨w.heap.size + 1, 2, none⟩ = some (.int .i64 e'))
    (first | with_reducible exact hcl | (with_reducible refine s6 (e := 29) (e' := 29) ?_ ?_ <;> repeat (first | with_reducible exact ra | with_reducible exact rb | with_reducible refine Row.otherJ ?_ _ _ (by omega))))
    (first
      | (go_at_call_of 26 (Value.agg #[Value.bool t, Value.slice B n d]); refine (fromV hv1 (by omega)).mono ?_; rintro ev wn ⟨u1, rfl, a1, b⟩; replace ra := ra.belowR b; replace rb := rb.belowR b; replace rc := rc.belowR b; replace i1 := i1.below b; replace i2 := i2.below b; replace hv1 := hv1.below b; replace hv2 := hv2.below b; replace hw := hw.trans (b.mono hw.size); replace hcl := s6 ra rb; clear b)
      | (go_at_call_of 26 (Value.agg #[Value.bool t', Value.slice B' n' d']); refine (fromV hv2 (by omega)).mono ?_; rintro ev wn ⟨u2, rfl, a2, b⟩; replace ra := ra.belowR b; replace rb := rb.belowR b; replace rc := rc.belowR b; replace i1 := i1.below b; replace i2 := i2.below b; replace hv1 := hv1.below b; replace hv2 := hv2.below b; replace hw := hw.trans (b.mono hw.size); replace hcl := s6 ra rb; replace a1 := a1.below b; clear b)
      | (go_at_call 16; refine (rmulD a1 a2 HS.out.1 HS.out.2.1 (by omega)).mono ?_; rintro ev wn ⟨u3, rfl, a3, b⟩; replace ra := ra.belowR b; replace rb := rb.belowR b; replace rc := rc.belowR b; replace i1 := i1.below b; replace i2 := i2.below b; replace hv1 := hv1.below b; replace hv2 := hv2.below b; replace hw := hw.trans (b.mono hw.size); replace hcl := s6 ra rb; clear b)
      | (go_at_call 15; refine (rmadeD (e + e') a3 HS.out.2.2 (by omega) (by have := HE.out; omega) (by have := HE.out; omega)).mono ?_; rintro ev wn ⟨u4, rfl, hres, b⟩; replace ra := ra.belowR b; replace rb := rb.belowR b; replace rc := rc.belowR b; replace i1 := i1.below b; replace i2 := i2.below b; replace hv1 := hv1.below b; replace hv2 := hv2.below b; replace hw := hw.trans (b.mono hw.size); replace hcl := s6 ra rb; obtain ⟨tu, Bu, nu, du, eu, ok, rfl⟩ := hres.shape; have hcc := box3_facts rc; clear b))
  have f1 := box3_facts (box3_set rc (.bool tu) (.slice Bu nu du) (.int .i64 eu))
  clear hcl
  go_wp2_with fail
  exact bodyPost_ret (v := .tuple #[.agg #[.bool tu, .slice Bu nu du, .int .i64 eu], .bool ok]) (by simp [results, Tryd.results34, go_sem, f1]) rfl
    ⟨_, rfl, by rw [HA.out]; exact hres.set3 rc _ _ _ _ _, Below.sets3 hw (by omega) _ _ _⟩

theorem rMulY {v v' : Value} {m m' e e' : Int} {k : Nat} {w : World} (h : IDy w v m e k) (h' : IDy w v' m' e' k) (hk : k ≤ 1000) :
    Calls Tryd.prog 34 #[v, v'] w fun ev w' => ∃ u, ev = .returned u ∧ ResB w' u (mul2 m e m' e') ∧ Below w.heap.size w w' := by
  by_cases q : May m e ∧ May m' e'
  · exact rMul_yes h h' hk q.1 q.2
  · exact rMul_no h h' hk q

end Go.Proofs.YtlgecdkidgjgiaaDoor
