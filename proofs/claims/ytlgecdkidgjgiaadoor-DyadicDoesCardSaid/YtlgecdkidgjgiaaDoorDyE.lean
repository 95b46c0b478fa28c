/- The walks of layer 6's sums, differences, products, and of which is less. -/
import Derived.Test.YtlgecdkidgjgiaaDoorDyD
namespace Go.Proofs.YtlgecdkidgjgiaaDoor
open Go.RowKit

/-- a sum, plain, or refused -/
noncomputable def add2 (m e m' e' : Int) : Option (Int × Int) :=
  if May m e ∧ May m' e' then mk (2 ^ (e - min e e').toNat * m + 2 ^ (e' - min e e').toNat * m') (min e e') else none
/-- a product, plain, or refused -/
noncomputable def mul2 (m e m' e' : Int) : Option (Int × Int) := if May m e ∧ May m' e' then mk (m * m') (e + e') else none
theorem May.shl {m e E : Int} {N : Nat} (h : May m e) (hN : e - E = (N : Int)) (hE : -16384 ≤ E) : Sz (2 ^ N * m) 768 := by
  have := h.2.1
  exact (h.2.2.shl (N := N) (j := 512) (by omega)).mono (by decide)

set_option maxHeartbeats 1600000 in
theorem both_no {v v' : Value} {m m' e e' : Int} {k : Nat} {w : World} (h : IDy w v m e k) (h' : IDy w v' m' e' k) (hk : k ≤ 1024) (hm : ¬ (May m e ∧ May m' e')) :
    Calls Tryd.prog 52 #[v, v'] w fun ev w' => ev = .returned (.tuple #[.agg #[.bool false, .slice none 0 0], .agg #[.bool false, .slice none 0 0], .int .i64 0, .iface 74 (.int .i64 7)]) ∧ Below w.heap.size w w' := by
  have i1 := h
  have i2 := h'
  obtain ⟨t, B, n, d, rfl, hv⟩ := h.shape
  obtain ⟨t', B', n', d', rfl, hv'⟩ := h'.shape
  clear h h' hv hv'
  obtain ⟨ra, rb, rx, ry, re, hw, hs⟩ := new5 w 29 29 27 27 3 #[.bool t, .slice B n d, .int .i64 e] #[.bool t', .slice B' n' d', .int .i64 e'] #[.bool false, .slice none 0 0] #[.bool false, .slice none 0 0] #[.int .i64 0]
  have hfin : ∀ W1 : World, Row W1 (w.heap.size + 1 + 1) 27 #[.bool false, .slice none 0 0] → Row W1 (w.heap.size + 1 + 1 + 1) 27 #[.bool false, .slice none 0 0] → Row W1 (w.heap.size + 1 + 1 + 1 + 1) 3 #[.int .i64 0] → Below w.heap.size w W1 →
      let W2 := (((((W1.setCell ⟨w.heap.size + 1 + 1, 0, none⟩ (.bool false)).setCell ⟨w.heap.size + 1 + 1, 1, none⟩ (.slice none 0 0)).setCell ⟨w.heap.size + 1 + 1 + 1, 0, none⟩ (.bool false)).setCell ⟨w.heap.size + 1 + 1 + 1, 1, none⟩ (.slice none 0 0))).setCell ⟨w.heap.size + 1 + 1 + 1 + 1, 0, none⟩ (.int .i64 0)
      Row W2 (w.heap.size + 1 + 1) 27 #[.bool false, .slice none 0 0] ∧ Row W2 (w.heap.size + 1 + 1 + 1) 27 #[.bool false, .slice none 0 0] ∧ Row W2 (w.heap.size + 1 + 1 + 1 + 1) 3 #[.int .i64 0] ∧ Below w.heap.size w W2 := by
    intro W1 rx ry re hw
    refine ⟨((box_set rx _ _).sets _ _ (by omega)).other0 _ (by omega), (box_set (ry.sets _ _ (by omega)) _ _).other0 _ (by omega), ((re.sets _ _ (by omega)).sets _ _ (by omega)).reset1 _, ?_⟩
    exact (Below.sets (Below.sets hw (by omega) _ _) (by omega) _ _).setCell (p := ⟨w.heap.size + 1 + 1 + 1 + 1, 0, none⟩) (by show w.heap.size ≤ w.heap.size + 1 + 1 + 1 + 1; omega) _
  have HF := Lib.hid hfin
  clear hfin
  have fin : ∀ W1 : World, Row W1 (w.heap.size + 1 + 1) 27 #[.bool false, .slice none 0 0] → Row W1 (w.heap.size + 1 + 1 + 1) 27 #[.bool false, .slice none 0 0] → Row W1 (w.heap.size + 1 + 1 + 1 + 1) 3 #[.int .i64 0] → True := fun _ _ _ _ => trivial
  clear fin
  by_cases hm1 : May m e
  · have d1 : decide (May m e) = true := decide_eq_true hm1
    have d2 : decide (May m' e') = false := decide_eq_false fun h => hm ⟨hm1, h⟩
    clear hm hm1
    go_enter Tryd.func52, Tryd.ntmps52
    go_wp2_with fail
    generalize ((((w.alloc (.cells #[.bool t, .slice B n d, .int .i64 e] 29)).alloc (.cells #[.bool t', .slice B' n' d', .int .i64 e'] 29)).alloc (.cells #[.bool false, .slice none 0 0] 27)).alloc (.cells #[.bool false, .slice none 0 0] 27)).alloc (.cells #[.int .i64 0] 3) = W at *
    clear hs
    refine (dmayV (i1.below hw) (by omega)).mono ?_
    rintro ev w1 ⟨rfl, b1⟩
    replace rb := rb.belowR b1
    replace rx := rx.belowR b1
    replace ry := ry.belowR b1
    replace re := re.belowR b1
    have hb1 := box3_facts rb
    replace hw := hw.trans (b1.mono hw.size)
    clear b1 ra
    go_wp2_with fail
    refine (dmayV (i2.below hw) (by omega)).mono ?_
    rintro ev w2 ⟨rfl, b1⟩
    replace rx := rx.belowR b1
    replace ry := ry.belowR b1
    replace re := re.belowR b1
    replace hw := hw.trans (b1.mono hw.size)
    obtain ⟨rx2, ry2, re2, hw2⟩ := HF.out w2 rx ry re hw
    have hx := box_facts rx
    have hy := box_facts (ry.sets (.bool false) (.slice none 0 0) (g' := w.heap.size + 1 + 1) (by omega))
    have he := box1_facts ((re.sets (.bool false) (.slice none 0 0) (g' := w.heap.size + 1 + 1) (by omega)).sets (.bool false) (.slice none 0 0) (g' := w.heap.size + 1 + 1 + 1) (by omega))
    have f1 := box_facts rx2
    have f2 := box_facts ry2
    have f3 := box1_facts re2
    clear b1 hb1 rx ry re rx2 ry2 re2 rb HF hw
    go_wp2_with fail
    exact bodyPost_ret (v := .tuple #[.agg #[.bool false, .slice none 0 0], .agg #[.bool false, .slice none 0 0], .int .i64 0, .iface 74 (.int .i64 7)]) (by simp [results, Tryd.results52, go_sem, f1, f2, f3]) rfl
      ⟨rfl, hw2⟩
  · have d1 : decide (May m e) = false := decide_eq_false hm1
    clear hm hm1
    go_enter Tryd.func52, Tryd.ntmps52
    go_wp2_with fail
    generalize ((((w.alloc (.cells #[.bool t, .slice B n d, .int .i64 e] 29)).alloc (.cells #[.bool t', .slice B' n' d', .int .i64 e'] 29)).alloc (.cells #[.bool false, .slice none 0 0] 27)).alloc (.cells #[.bool false, .slice none 0 0] 27)).alloc (.cells #[.int .i64 0] 3) = W at *
    clear hs
    refine (dmayV (i1.below hw) (by omega)).mono ?_
    rintro ev w2 ⟨rfl, b1⟩
    replace rx := rx.belowR b1
    replace ry := ry.belowR b1
    replace re := re.belowR b1
    replace hw := hw.trans (b1.mono hw.size)
    obtain ⟨rx2, ry2, re2, hw2⟩ := HF.out w2 rx ry re hw
    have hx := box_facts rx
    have hy := box_facts (ry.sets (.bool false) (.slice none 0 0) (g' := w.heap.size + 1 + 1) (by omega))
    have he := box1_facts ((re.sets (.bool false) (.slice none 0 0) (g' := w.heap.size + 1 + 1) (by omega)).sets (.bool false) (.slice none 0 0) (g' := w.heap.size + 1 + 1 + 1) (by omega))
    have f1 := box_facts rx2
    have f2 := box_facts ry2
    have f3 := box1_facts re2
    clear b1 rx ry re rx2 ry2 re2 rb ra HF hw
    go_wp2_with fail
    exact bodyPost_ret (v := .tuple #[.agg #[.bool false, .slice none 0 0], .agg #[.bool false, .slice none 0 0], .int .i64 0, .iface 74 (.int .i64 7)]) (by simp [results, Tryd.results52, go_sem, f1, f2, f3]) rfl
      ⟨rfl, hw2⟩

/-- what both answers, of whatever shape -/
def Both (w : World) (m e m' e' : Int) (v : Value) : Prop :=
  ∃ (t : Bool) (B : Option Addr) (n d : Nat) (t' : Bool) (B' : Option Addr) (n' d' : Nat) (E : Int) (er : Value), v = .tuple #[.agg #[.bool t, .slice B n d], .agg #[.bool t', .slice B' n' d'], .int .i64 E, er] ∧
    ((May m e ∧ May m' e' ∧ E = min e e' ∧ er = .nilIface ∧ CV w (.agg #[.bool t, .slice B n d]) (2 ^ (e - min e e').toNat * m) ∧ CV w (.agg #[.bool t', .slice B' n' d']) (2 ^ (e' - min e e').toNat * m')) ∨
     (¬ (May m e ∧ May m' e') ∧ E = 0 ∧ er = .iface 74 (.int .i64 7) ∧ (.agg #[.bool t, .slice B n d]) = (.agg #[.bool false, .slice none 0 0] : Value) ∧ (.agg #[.bool t', .slice B' n' d']) = (.agg #[.bool false, .slice none 0 0] : Value)))
theorem bothV {v v' : Value} {m m' e e' : Int} {k : Nat} {w : World} (h : IDy w v m e k) (h' : IDy w v' m' e' k) (hk : k ≤ 1024) :
    Calls Tryd.prog 52 #[v, v'] w fun ev w' => ∃ u, ev = .returned u ∧ Both w' m e m' e' u ∧ Below w.heap.size w w' := by
  by_cases hm : May m e ∧ May m' e'
  · refine (both_ok h h' hk hm.1 hm.2).mono ?_
    rintro ev w' ⟨x, y, rfl, hx, hy, hb⟩
    obtain ⟨t, B, n, d, rfl⟩ := hx.shape
    obtain ⟨t', B', n', d', rfl⟩ := hy.shape
    exact ⟨_, rfl, ⟨t, B, n, d, t', B', n', d', _, _, rfl, .inl ⟨hm.1, hm.2, rfl, rfl, hx, hy⟩⟩, hb⟩
  · refine (both_no h h' hk hm).mono ?_
    rintro ev w' ⟨rfl, hb⟩
    exact ⟨_, rfl, ⟨false, none, 0, 0, false, none, 0, 0, _, _, rfl, .inr ⟨hm, rfl, rfl, rfl, rfl⟩⟩, hb⟩
end Go.Proofs.YtlgecdkidgjgiaaDoor
