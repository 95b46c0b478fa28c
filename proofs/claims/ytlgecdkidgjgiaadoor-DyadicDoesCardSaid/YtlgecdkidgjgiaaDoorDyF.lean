/- The walks of layer 6's sums and differences. -/
import Derived.Test.YtlgecdkidgjgiaaDoorDyE
namespace Go.Proofs.YtlgecdkidgjgiaaDoor
open Go.RowKit

set_option maxHeartbeats 1600000 in
theorem daddV {v v' : Value} {m m' e e' : Int} {k : Nat} {w : World} (h : IDy w v m e k) (h' : IDy w v' m' e' k) (hk : k ≤ 1024) (ht : TabOk w) :
    Calls Tryd.prog 18 #[v, v'] w fun ev w' => ∃ u, ev = .returned u ∧ Res w' u (add2 m e m' e') ∧ Below w.heap.size w w' := by
  have i1 := h
  have i2 := h'
  obtain ⟨t, B, n, d, rfl, hv⟩ := h.shape
  obtain ⟨t', B', n', d', rfl, hv'⟩ := h'.shape
  clear h h' hv hv'
  obtain ⟨ra, rb, rc, hw, hs⟩ := new3 w 29 29 29 #[.bool t, .slice B n d, .int .i64 e] #[.bool t', .slice B' n' d', .int .i64 e'] #[.bool false, .slice none 0 0, .int .i64 0]
  go_enter Tryd.func18, Tryd.ntmps18
  go_wp2_with fail
  generalize ((w.alloc (.cells #[.bool t, .slice B n d, .int .i64 e] 29)).alloc (.cells #[.bool t', .slice B' n' d', .int .i64 e'] 29)).alloc (.cells #[.bool false, .slice none 0 0, .int .i64 0] 29) = W at *
  have hs1 : w.heap.size + 2 < W.heap.size := by omega
  clear hs
  refine (bothV (i1.below hw) (i2.below hw) hk).mono ?_
  rintro ev w1 ⟨u, rfl, ⟨t1, B1, n1, c1, t2, B2, n2, c2, E, er, rfl, hcase⟩, b1⟩
  replace rc := rc.belowR b1
  replace hw := hw.trans (b1.mono hw.size)
  have hs2 := Nat.lt_of_lt_of_le hs1 b1.size
  clear b1 hs1 W ra rb
  have hc1 := box3_facts rc
  rcases hcase with ⟨hm, hm', rfl, rfl, hx, hy⟩ | ⟨hno, rfl, rfl, ex, ey⟩
  · have hadd : add2 m e m' e' = mk (2 ^ (e - min e e').toNat * m + 2 ^ (e' - min e e').toNat * m') (min e e') := if_pos ⟨hm, hm'⟩
    have HA := Lib.hid hadd
    clear hadd
    have q0 : -16384 ≤ min e e' ∧ min e e' ≤ 16384 := by have := hm.1; have := hm.2.1; have := hm'.1; have := hm'.2.1; omega
    have sx := hm.shl (N := (e - min e e').toNat) (E := min e e') (by omega) q0.1
    have sy := hm'.shl (N := (e' - min e e').toNat) (E := min e e') (by omega) q0.1
    generalize min e e' = E at *
    generalize 2 ^ (e - E).toNat * m = x at *
    generalize 2 ^ (e' - E).toNat * m' = y at *
    clear hm hm'
    have b2 := below_new2 w1 (.cells #[.bool t1, .slice B1 n1 c1] 27) (.cells #[.bool t2, .slice B2 n2 c2] 27)
    go_wp2_with fail
    generalize (w1.alloc (.cells #[.bool t1, .slice B1 n1 c1] 27)).alloc (.cells #[.bool t2, .slice B2 n2 c2] 27) = W at *
    refine (addV ((hx.below b2).iv sx) ((hy.below b2).iv sy) (by omega) (by omega)).mono ?_
    rintro ev w3 ⟨u, rfl, hu, b3⟩
    replace rc := (rc.belowR b2).belowR b3
    replace hw := (hw.trans (b2.mono hw.size)).trans (b3.mono (Nat.le_trans hw.size b2.size))
    have sxy := Sz.add sx sy (m := 769) (by omega)
    clear b2 b3 hx hy hc1 hs2
    go_wp2_with fail
    refine (madeV E (hu.iv sxy) (by omega) (by omega) (by omega) (ht.below hw)).mono ?_
    rintro ev w4 ⟨r, rfl, hres, b4⟩
    obtain ⟨t', B', n', d', e1, er, rfl⟩ := hres.shape
    replace rc := rc.belowR b4
    replace hw := hw.trans (b4.mono hw.size)
    have hc := box3_facts rc
    go_wp2_with fail
    exact bodyPost_ret (v := .tuple #[.agg #[.bool t', .slice B' n' d', .int .i64 e1], er]) (by simp [results, Tryd.results18, go_sem, hc]) rfl
      ⟨_, rfl, by rw [HA.out]; exact hres.set3 rc _ _ _ _ _, Below.sets3 hw (by omega) _ _ _⟩
  · have HA := Lib.hid (show add2 m e m' e' = none from if_neg hno)
    clear hno
    simp only [Value.agg.injEq, Array.mk.injEq, List.cons.injEq, Value.bool.injEq, Value.slice.injEq, and_true] at ex ey
    obtain ⟨rfl, rfl, rfl, rfl⟩ := ex
    obtain ⟨rfl, rfl, rfl, rfl⟩ := ey
    have b2 := below_new2 w1 (.cells #[.bool false, .slice none 0 0] 27) (.cells #[.bool false, .slice none 0 0] 27)
    have rc2 := rc.belowR b2
    have hw2 := hw.trans (b2.mono hw.size)
    have hc2 := box3_facts rc2
    go_wp2_with fail
    generalize (w1.alloc (.cells #[.bool false, .slice none 0 0] 27)).alloc (.cells #[.bool false, .slice none 0 0] 27) = W at *
    exact bodyPost_ret (v := .tuple #[.agg #[.bool false, .slice none 0 0, .int .i64 0], .iface 74 (.int .i64 7)]) (by simp [results, Tryd.results18, go_sem, hc2]) rfl
      ⟨_, rfl, by rw [HA.out]; exact rfl, Below.sets3 hw2 (by omega) _ _ _⟩

theorem Row.part3 {w : World} {g : Nat} {e : TypeId} {v0 v1 v2 : Value} (h : Row w g e #[v0, v1, v2]) (u0 u1 : Value) : Row ((w.setCell ⟨g, 0, none⟩ u0).setCell ⟨g, 1, none⟩ u1) g e #[u0, u1, v2] := (h.set 0 u0).set 1 u1
theorem CV.setD {w : World} {v : Value} {z : Int} (h : CV w v z) {g : Nat} {e : TypeId} {b0 : Bool} {a0 : Option Addr} {n0 c0 : Nat} {e0 : Int} (hb : Row w g e #[.bool b0, .slice a0 n0 c0, .int .i64 e0]) (b1 : Bool) (a1 : Option Addr) (n1 c1 : Nat) :
    CV ((w.setCell ⟨g, 0, none⟩ (.bool b1)).setCell ⟨g, 1, none⟩ (.slice a1 n1 c1)) v z :=
  (h.setB hb (noInt3 _ _ _ _ _) 0 _).setB (hb.set 0 (.bool b1)) (noInt3 _ _ _ _ _) 1 _

set_option maxHeartbeats 1600000 in
theorem dsubV {v v' : Value} {m m' e e' : Int} {k : Nat} {w : World} (h : IDy w v m e k) (h' : IDy w v' m' e' k) (hk : k ≤ 1000) (ht : TabOk w) :
    Calls Tryd.prog 11 #[v, v'] w fun ev w' => ∃ u, ev = .returned u ∧ Res w' u (add2 m e (-m') e') ∧ Below w.heap.size w w' := by
  have i1 := h
  obtain ⟨t, B, n, d, rfl, hv⟩ := h.shape
  obtain ⟨t', B', n', d', rfl, hv'⟩ := h'.shape
  clear h h' hv
  obtain ⟨ra, rb, rc, hw, hs⟩ := new3 w 29 29 29 #[.bool t, .slice B n d, .int .i64 e] #[.bool t', .slice B' n' d', .int .i64 e'] #[.bool false, .slice none 0 0, .int .i64 0]
  go_enter Tryd.func11, Tryd.ntmps11
  go_wp2_with fail
  generalize ((w.alloc (.cells #[.bool t, .slice B n d, .int .i64 e] 29)).alloc (.cells #[.bool t', .slice B' n' d', .int .i64 e'] 29)).alloc (.cells #[.bool false, .slice none 0 0, .int .i64 0] 29) = W at *
  have hs1 : w.heap.size + 2 < W.heap.size := by omega
  clear hs
  have sz := hv'.sz
  refine (negV (hv'.below hw) (by omega)).mono ?_
  rintro ev w1 ⟨u, rfl, hu, b1⟩
  obtain ⟨t2, B2, n2, d2, rfl⟩ := hu.shape
  replace ra := ra.belowR b1
  replace rb := rb.belowR b1
  replace rc := rc.belowR b1
  replace hw := hw.trans (b1.mono hw.size)
  have hs2 := Nat.lt_of_lt_of_le hs1 b1.size
  clear b1 hs1 W
  have hb := box3_facts rb
  have ra2 := ra.sets (.bool t2) (.slice B2 n2 d2) (g' := w.heap.size + 1) (by omega)
  have rb2 := rb.part3 (.bool t2) (.slice B2 n2 d2)
  have rc2 := rc.sets (.bool t2) (.slice B2 n2 d2) (g' := w.heap.size + 1) (by omega)
  have hu2 := hu.setD rb t2 B2 n2 d2
  have hw2 := Below.sets hw (g := w.heap.size + 1) (by omega) (.bool t2) (.slice B2 n2 d2)
  have ha2 := box3_facts ra2
  have hb2 := box3_facts rb2
  go_wp2_with fail
  generalize (w1.setCell ⟨w.heap.size + 1, 0, none⟩ (.bool t2)).setCell ⟨w.heap.size + 1, 1, none⟩ (.slice B2 n2 d2) = w2 at *
  refine (daddV (i1.below hw2) (IDy.of (hu2.iv sz.neg)) (by omega) (ht.below hw2)).mono ?_
  rintro ev w4 ⟨r, rfl, hres, b4⟩
  obtain ⟨t3, B3, n3, d3, e3, er, rfl⟩ := hres.shape
  replace rc := rc2.belowR b4
  replace hw := hw2.trans (b4.mono hw2.size)
  have hc := box3_facts rc
  go_wp2_with fail
  exact bodyPost_ret (v := .tuple #[.agg #[.bool t3, .slice B3 n3 d3, .int .i64 e3], er]) (by simp [results, Tryd.results11, go_sem, hc]) rfl
    ⟨_, rfl, hres.set3 rc _ _ _ _ _, Below.sets3 hw (by omega) _ _ _⟩
end Go.Proofs.YtlgecdkidgjgiaaDoor
