/- The walks of layer 6's functions of one number: Plain; and of the function that brings a number to a power of two. -/
import Derived.Test.YtlgecdkidgjgiaaDoorDyB
namespace Go.Proofs.YtlgecdkidgjgiaaDoor
open Go.RowKit

/-- A value that holds the dyadic number m times 2^e, m in at most k limbs, not always in its one form. -/
def IDy (w : World) (v : Value) (m e : Int) (k : Nat) : Prop :=
  ∃ (t : Bool) (zs : List Int) (B : Option Addr) (d : Nat), v = .agg #[.bool t, .slice B zs.length d, .int .i64 e] ∧ zs.length ≤ d ∧ RdS w .u64 B zs.length zs ∧ Dg B64 zs ∧ zi t zs = m ∧ zs.length ≤ k
theorem IDy.below {w w' : World} {v : Value} {m e : Int} {k : Nat} (h : IDy w v m e k) (hb : Below w.heap.size w w') : IDy w' v m e k := by
  obtain ⟨t, zs, B, d, h1, h2, h3, h4⟩ := h
  exact ⟨t, zs, B, d, h1, h2, h3.below hb, h4⟩
theorem DyV.idy {w : World} {v : Value} {m e : Int} {k : Nat} (h : DyV w v m e) (hk : Sz m k) : IDy w v m e k := by
  obtain ⟨t, zs, B, d, h1, h2, h3, h4⟩ := h
  exact ⟨t, zs, B, d, h1, h2, h3, h4.can.dg, h4.zi, h4.len hk⟩
theorem IDy.sz {w : World} {v : Value} {m e : Int} {k : Nat} (h : IDy w v m e k) : Sz m k := by
  obtain ⟨t, zs, B, d, _, _, _, h4, h5, h6⟩ := h
  rw [← h5]; exact (Sz.of_zi h4).mono h6
theorem IDy.shape {w : World} {v : Value} {m e : Int} {k : Nat} (h : IDy w v m e k) : ∃ (t : Bool) (B : Option Addr) (n d : Nat), v = .agg #[.bool t, .slice B n d, .int .i64 e] ∧ IV w (.agg #[.bool t, .slice B n d]) m k := by
  obtain ⟨t, zs, B, d, h1, h2, h3, h4, h5, h6⟩ := h
  exact ⟨t, B, _, d, h1, t, zs, B, d, rfl, h2, h3, h4, h5, h6⟩
theorem IDy.of {w : World} {t : Bool} {B : Option Addr} {n d : Nat} {m e : Int} {k : Nat} (h : IV w (.agg #[.bool t, .slice B n d]) m k) : IDy w (.agg #[.bool t, .slice B n d, .int .i64 e]) m e k := by
  obtain ⟨t', zs, B', d', h1, h2, h3, h4, h5, h6⟩ := h
  simp only [Value.agg.injEq, Array.mk.injEq, List.cons.injEq, Value.bool.injEq, Value.slice.injEq, and_true] at h1
  obtain ⟨rfl, rfl, rfl, rfl⟩ := h1
  exact ⟨_, _, _, _, rfl, h2, h3, h4, h5, h6⟩
theorem DyV.of {w : World} {t : Bool} {B : Option Addr} {n d : Nat} {m e : Int} (h : CV w (.agg #[.bool t, .slice B n d]) m) : DyV w (.agg #[.bool t, .slice B n d, .int .i64 e]) m e := by
  obtain ⟨t', zs, B', d', h1, h2, h3, h4⟩ := h
  simp only [Value.agg.injEq, Array.mk.injEq, List.cons.injEq, Value.bool.injEq, Value.slice.injEq, and_true] at h1
  obtain ⟨rfl, rfl, rfl, rfl⟩ := h1
  exact ⟨_, _, _, _, rfl, h2, h3, h4⟩
theorem Res.shape {w : World} {v : Value} {r : Option (Int × Int)} (h : Res w v r) : ∃ (t : Bool) (B : Option Addr) (n d : Nat) (e : Int) (er : Value), v = .tuple #[.agg #[.bool t, .slice B n d, .int .i64 e], er] := by
  cases r with
  | none => exact ⟨_, _, _, _, _, _, h⟩
  | some p =>
    obtain ⟨d, h1, h2⟩ := h
    obtain ⟨t, B, n, d', rfl⟩ := h2.shape
    exact ⟨_, _, _, _, _, _, h1⟩
theorem Res.set3 {w : World} {v : Value} {r : Option (Int × Int)} (h : Res w v r) {g : Nat} {e : TypeId} {b0 : Bool} {a0 : Option Addr} {n0 c0 : Nat} {e0 : Int} (hb : Row w g e #[.bool b0, .slice a0 n0 c0, .int .i64 e0]) (b1 : Bool) (a1 : Option Addr) (n1 c1 : Nat) (u2 : Value) :
    Res (((w.setCell ⟨g, 0, none⟩ (.bool b1)).setCell ⟨g, 1, none⟩ (.slice a1 n1 c1)).setCell ⟨g, 2, none⟩ u2) v r := by
  cases r with
  | none => exact h
  | some p =>
    obtain ⟨d, h1, t, zs, B, d', h2, h3, h4, h5⟩ := h
    exact ⟨d, h1, t, zs, B, d', h2, h3, h4.set3 hb _ _ _ _ _, h5⟩
theorem noInt1 (e : Int) : NoInt .u64 #[.int .i64 e] := by
  intro j z
  match j with
  | 0 => simp
  | j + 1 => simp

theorem dmayV {v : Value} {m e : Int} {k : Nat} {w : World} (h : IDy w v m e k) (hk : k ≤ 1048576) :
    Calls Tryd.prog 43 #[v] w fun ev w' => ev = .returned (.bool (decide (May m e))) ∧ Below w.heap.size w w' := by
  obtain ⟨t, zs, B, d, rfl, h2, h3, h4, rfl, h6⟩ := h
  exact may_any t B zs.length zs d e w h3 h2 (by omega) h4
theorem madeV {v : Value} {m : Int} {k : Nat} {w : World} (e : Int) (h : IV w v m k) (hk : k ≤ 1048576) (he0 : -1152921504606846976 ≤ e) (he1 : e ≤ 1152921504606846976) (ht : TabOk w) :
    Calls Tryd.prog 41 #[v, .int .i64 e] w fun ev w' => ∃ u, ev = .returned u ∧ Res w' u (mk m e) ∧ Below w.heap.size w w' := by
  obtain ⟨t, zs, B, d, rfl, h2, h3, h4, rfl, h6⟩ := h
  exact made_any t B zs.length zs d e w h3 h2 (by omega) h4 he0 he1 ht
theorem wshlV {v : Value} {z : Int} {k : Nat} {w : World} (N : Nat) (h : IV w v z k) (hk : k ≤ 1024) (hN : N ≤ 65536) :
    Calls Tryd.prog 23 #[v, .int .i64 N] w fun e w' => ∃ v', e = .returned (.tuple #[v', .nilIface]) ∧ CV w' v' (2 ^ N * z) ∧ Below w.heap.size w w' := by
  obtain ⟨t, zs, B, d, rfl, h2, h3, h4, rfl, h6⟩ := h
  refine (wshl_any t B zs.length zs d N w h3 h2 (by omega) hN h4).mono ?_
  rintro e w' ⟨t1, us, C, rfl, hr, hc, hb⟩
  exact ⟨_, rfl, ⟨_, _, _, _, rfl, Nat.le_refl _, hr, hc⟩, hb⟩
theorem CV.sets {w : World} {v : Value} {z : Int} {g : Nat} {e : TypeId} {b0 : Bool} {a0 : Option Addr} {n0 c0 : Nat} (h : CV w v z) (hb : Row w g e #[.bool b0, .slice a0 n0 c0]) (u0 u1 : Value) :
    CV ((w.setCell ⟨g, 0, none⟩ u0).setCell ⟨g, 1, none⟩ u1) v z := by
  obtain ⟨t, zs, B, d, h1, h2, h3, h4⟩ := h
  exact ⟨t, zs, B, d, h1, h2, h3.set2 hb u0 u1, h4⟩
/-- a number plain, or refused -/
noncomputable def plain2 (m e : Int) : Option (Int × Int) := if May m e then mk m e else none

set_option maxHeartbeats 1600000 in
theorem dplainV {v : Value} {m e : Int} {k : Nat} {w : World} (h : IDy w v m e k) (hk : k ≤ 1048576) (ht : TabOk w) :
    Calls Tryd.prog 19 #[v] w fun ev w' => ∃ u, ev = .returned u ∧ Res w' u (plain2 m e) ∧ Below w.heap.size w w' := by
  have hi := h
  obtain ⟨t, B, n, d, rfl, hv⟩ := h.shape
  obtain ⟨ra, rc, hw⟩ := new2 w 29 29 #[.bool t, .slice B n d, .int .i64 e] #[.bool false, .slice none 0 0, .int .i64 0]
  have hs1 : w.heap.size + 1 < ((w.alloc (.cells #[.bool t, .slice B n d, .int .i64 e] 29)).alloc (.cells #[.bool false, .slice none 0 0, .int .i64 0] 29)).heap.size := by simp
  go_enter Tryd.func19, Tryd.ntmps19
  go_wp2_with fail
  generalize ((w.alloc (.cells #[.bool t, .slice B n d, .int .i64 e] 29)).alloc (.cells #[.bool false, .slice none 0 0, .int .i64 0] 29)) = W at *
  refine (dmayV (hi.below hw) hk).mono ?_
  rintro ev w1 ⟨rfl, b1⟩
  have ra1 := ra.belowR b1
  have rc1 := rc.belowR b1
  have ha1 := box3_facts ra1
  have hc1 := box3_facts rc1
  have bw := hw.trans (b1.mono hw.size)
  by_cases hmay : May m e
  · have hd : decide (May m e) = true := decide_eq_true hmay
    have hm : plain2 m e = mk m e := if_pos hmay
    have e0 := hmay.1
    have e1 := hmay.2.1
    have HM := Lib.hid hm
    clear hm hmay
    go_wp2_with fail
    refine (madeV e (hv.below bw) hk (by omega) (by omega) (ht.below bw)).mono ?_
    rintro ev w2 ⟨u, rfl, hres, b2⟩
    obtain ⟨t', B', n', d', e', er, rfl⟩ := hres.shape
    have rc2 := rc1.belowR b2
    have hc2 := box3_facts rc2
    have bw2 := bw.trans (b2.mono bw.size)
    go_wp2_with fail
    exact bodyPost_ret (v := .tuple #[.agg #[.bool t', .slice B' n' d', .int .i64 e'], er]) (by simp [results, Tryd.results19, go_sem, hc2]) rfl
      ⟨_, rfl, by rw [HM.out]; exact hres.set3 rc2 _ _ _ _ _, Below.sets3 bw2 (by omega) _ _ _⟩
  · have hd : decide (May m e) = false := decide_eq_false hmay
    have hm : plain2 m e = none := if_neg hmay
    have HM := Lib.hid hm
    clear hm hmay
    go_wp2_with fail
    exact bodyPost_ret (v := .tuple #[.agg #[.bool false, .slice none 0 0, .int .i64 0], .iface 74 (.int .i64 7)]) (by simp [results, Tryd.results19, go_sem, hc1]) rfl
      ⟨_, rfl, by rw [HM.out]; exact rfl, Below.sets3 bw (by omega) _ _ _⟩

set_option maxHeartbeats 1600000 in
theorem up_any {v : Value} {m e : Int} {k N : Nat} {w : World} (g : Nat) (e0 : Int) (h : IDy w v m e k) (hk : k ≤ 1024) (hN : e - e0 = (N : Int)) (hN1 : N ≤ 65536) (hc : w.cell? ⟨g, 0, none⟩ = some (.int .i64 e0)) :
    Calls Tryd.prog 78 #[v, .pointer (some ⟨g, 0, none⟩)] w fun ev w' => ∃ u, ev = .returned u ∧ CV w' u (2 ^ N * m) ∧ Below w.heap.size w w' := by
  obtain ⟨t, B, n, d, rfl, hv⟩ := h.shape
  obtain ⟨ra, rc, hw⟩ := new2 w 29 27 #[.bool t, .slice B n d, .int .i64 e] #[.bool false, .slice none 0 0]
  have hgl : g < w.heap.size := World.block_lt_of_cell? w _ hc
  have hc1 : ((w.alloc (.cells #[.bool t, .slice B n d, .int .i64 e] 29)).alloc (.cells #[.bool false, .slice none 0 0] 27)).cell? ⟨g, 0, none⟩ = some (.int .i64 e0) := (hw.cell (p := ⟨g, 0, none⟩) hgl).trans hc
  have hs1 : w.heap.size + 1 < ((w.alloc (.cells #[.bool t, .slice B n d, .int .i64 e] 29)).alloc (.cells #[.bool false, .slice none 0 0] 27)).heap.size := by simp
  go_enter Tryd.func78, Tryd.ntmps78
  go_wp2_with fail
  generalize ((w.alloc (.cells #[.bool t, .slice B n d, .int .i64 e] 29)).alloc (.cells #[.bool false, .slice none 0 0] 27)) = W at *
  refine (wshlV N (hv.below hw) hk hN1).mono ?_
  rintro ev w1 ⟨u, rfl, hu, b1⟩
  obtain ⟨t', B', n', d', rfl⟩ := hu.shape
  have rc1 := rc.belowR b1
  have hs2 := Nat.lt_of_lt_of_le hs1 b1.size
  have hc3 := box_facts rc1
  have rc2 := (box_set rc1 (.bool t') (.slice B' n' d')).allocR (.cells #[.bool t', .slice B' n' d'] 27)
  have hc4 := box_facts rc2
  have bw := Below.sets (hw.trans (b1.mono hw.size)) (g := w.heap.size + 1) (by omega) (.bool t') (.slice B' n' d')
  have bw2 := bw.trans ((al_ _ (.cells #[.bool t', .slice B' n' d'] 27)).mono bw.size)
  go_wp2_with fail
  exact bodyPost_ret (v := .agg #[.bool t', .slice B' n' d']) (by simp [results, Tryd.results78, go_sem, hc4]) rfl
    ⟨_, rfl, (hu.sets rc1 _ _).below (al_ _ _), bw2⟩
end Go.Proofs.YtlgecdkidgjgiaaDoor
