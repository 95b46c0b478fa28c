/- Layer 6's ratio of a plain number. -/
import Derived.Test.YtlgecdkidgjgiaaDoorAt
import Derived.Test.YtlgecdkidgjgiaaDoorVal
namespace Go.Proofs.YtlgecdkidgjgiaaDoor
open Go.RowKit

theorem maxi_run (ats : Array TypeId) (ty : TypeId) (p q m : Int) (hm : max p q = m) (w : World) : (Builtin.max_ ats ty #[.int .i64 p, .int .i64 q]).run Tryd.prog w = .ok (.int .i64 m) w := by
  subst hm
  simp only [Builtin.max_, List.foldlM_cons, List.foldlM_nil, Builtin.max2, Sem.run_bind, Sem.run_pure, Result.andThen]
  congr 2
  split <;> omega
theorem mini_run (ats : Array TypeId) (ty : TypeId) (p q m : Int) (hm : min p q = m) (w : World) : (Builtin.min_ ats ty #[.int .i64 p, .int .i64 q]).run Tryd.prog w = .ok (.int .i64 m) w := by
  rw [min_run, hm]
theorem DyV.cv {w : World} {t : Bool} {B : Option Addr} {n d : Nat} {m e x : Int} (h : DyV w (.agg #[.bool t, .slice B n d, .int .i64 x]) m e) : CV w (.agg #[.bool t, .slice B n d]) m := by
  obtain ⟨t', zs, B', d', h1, h2, h3, h4⟩ := h
  simp only [Value.agg.injEq, Array.mk.injEq, List.cons.injEq, Value.bool.injEq, Value.slice.injEq, and_true] at h1
  obtain ⟨rfl, ⟨rfl, rfl, rfl⟩, _⟩ := h1
  exact ⟨_, zs, _, _, rfl, h2, h3, h4⟩
theorem noInt4 (b : Bool) (A : Option Addr) (n c : Nat) (b' : Bool) (A' : Option Addr) (n' c' : Nat) : NoInt .u64 #[.bool b, .slice A n c, .bool b', .slice A' n' c'] := by
  intro j z
  match j with
  | 0 => simp
  | 1 => simp
  | 2 => simp
  | 3 => simp
  | j + 4 => simp
/-- a box of four cells set -/
def sets4 (w : World) (g : Nat) (u0 u1 u2 u3 : Value) : World := (((w.setCell ⟨g, 0, none⟩ u0).setCell ⟨g, 1, none⟩ u1).setCell ⟨g, 2, none⟩ u2).setCell ⟨g, 3, none⟩ u3
theorem CV.set4 {w : World} {v : Value} {z : Int} (h : CV w v z) {g : Nat} {e : TypeId} {b0 : Bool} {a0 : Option Addr} {n0 c0 : Nat} {b1 : Bool} {a1 : Option Addr} {n1 c1 : Nat} (hb : Row w g e #[.bool b0, .slice a0 n0 c0, .bool b1, .slice a1 n1 c1])
    (x0 : Bool) (y0 : Option Addr) (l0 k0 : Nat) (x1 : Bool) (y1 : Option Addr) (l1 k1 : Nat) : CV (sets4 w g (.bool x0) (.slice y0 l0 k0) (.bool x1) (.slice y1 l1 k1)) v z :=
  (((h.setB hb (noInt4 _ _ _ _ _ _ _ _) 0 _).setB (hb.set 0 (.bool x0)) (noInt4 _ _ _ _ _ _ _ _) 1 _).setB ((hb.set 0 (.bool x0)).set 1 (.slice y0 l0 k0)) (noInt4 _ _ _ _ _ _ _ _) 2 _).setB (((hb.set 0 (.bool x0)).set 1 (.slice y0 l0 k0)).set 2 (.bool x1)) (noInt4 _ _ _ _ _ _ _ _) 3 _
theorem box4_set {w : World} {g : Nat} {e : TypeId} {v0 v1 v2 v3 : Value} (h : Row w g e #[v0, v1, v2, v3]) (u0 u1 u2 u3 : Value) : Row (sets4 w g u0 u1 u2 u3) g e #[u0, u1, u2, u3] := (((h.set 0 u0).set 1 u1).set 2 u2).set 3 u3
theorem below_sets4 {B g : Nat} {w U : World} (h : Below B w U) (hg : B ≤ g) (u0 u1 u2 u3 : Value) : Below B w (sets4 U g u0 u1 u2 u3) :=
  (((h.setCell (p := ⟨g, 0, none⟩) hg u0).setCell (p := ⟨g, 1, none⟩) hg u1).setCell (p := ⟨g, 2, none⟩) hg u2).setCell (p := ⟨g, 3, none⟩) hg u3
theorem box4_facts {w : World} {g : Nat} {e : TypeId} {v0 v1 v2 v3 : Value} (h : Row w g e #[v0, v1, v2, v3]) :
    w.cell? ⟨g, 0, none⟩ = some v0 ∧ w.cell? ⟨g, 1, none⟩ = some v1 ∧ w.cell? ⟨g, 2, none⟩ = some v2 ∧ w.cell? ⟨g, 3, none⟩ = some v3 ∧ w.frozen? ⟨g, 0, none⟩ = false ∧ w.frozen? ⟨g, 1, none⟩ = false ∧ w.frozen? ⟨g, 2, none⟩ = false ∧ w.frozen? ⟨g, 3, none⟩ = false :=
  ⟨by rw [h.cell]; rfl, by rw [h.cell]; rfl, by rw [h.cell]; rfl, by rw [h.cell]; rfl, h.frozen 0, h.frozen 1, h.frozen 2, h.frozen 3⟩

/-- a value that is the ratio that m times 2^e is -/
def RV (w : World) (v : Value) (m e : Int) : Prop :=
  ∃ (t : Bool) (B : Option Addr) (n d : Nat) (t' : Bool) (B' : Option Addr) (n' d' : Nat), v = .agg #[.bool t, .slice B n d, .bool t', .slice B' n' d'] ∧ CV w (.agg #[.bool t, .slice B n d]) (2 ^ e.toNat * m) ∧ CV w (.agg #[.bool t', .slice B' n' d']) (2 ^ (-e).toNat * 1)
theorem RV.below {w w' : World} {v : Value} {m e : Int} (h : RV w v m e) (hb : Below w.heap.size w w') : RV w' v m e := by
  obtain ⟨t, B, n, d, t', B', n', d', rfl, h1, h2⟩ := h
  exact ⟨t, B, n, d, t', B', n', d', rfl, h1.below hb, h2.below hb⟩
theorem sz_one : Sz 1 1 := by unfold Sz; decide

set_option maxHeartbeats 1600000 in
theorem rsame4 {v v' : Value} {m e : Int} {w : World} (h : RV w v m e) (h' : RV w v' m e) (hz : Sz m 40) (he0 : -16384 ≤ e) (he1 : e ≤ 16384) :
    Calls Tryd.prog 30 #[v, v'] w fun ev w' => ev = .returned (.bool true) ∧ Below w.heap.size w w' := by
  have z1 := Lib.hid (show Sz (2 ^ e.toNat * m) 297 from Sz.shl (j := 257) hz (by omega))
  have z2 := Lib.hid (show Sz (2 ^ (-e).toNat * 1) 258 from Sz.shl (j := 257) sz_one (by omega))
  obtain ⟨t, B, n, d, t', B', n', d', rfl, c1, c2⟩ := h
  obtain ⟨s, A, k, c, s', A', k', c', rfl, a1, a2⟩ := h'
  clear hz he0 he1
  obtain ⟨ra, rb, hw⟩ := new2 w 57 57 #[.bool t, .slice B n d, .bool t', .slice B' n' d'] #[.bool s, .slice A k c, .bool s', .slice A' k' c']
  have f1 := box4_facts ra
  have f2 := box4_facts rb
  go_enter Tryd.func30, Tryd.ntmps30
  go_wp2_with fail
  generalize (w.alloc (.cells #[.bool t, .slice B n d, .bool t', .slice B' n' d'] 57)).alloc (.cells #[.bool s, .slice A k c, .bool s', .slice A' k' c'] 57) = W at *
  refine (sameV (c1.below hw) (a1.below hw) z1.out (by omega)).mono ?_
  rintro ev w1 ⟨rfl, b1⟩
  have f3 := box4_facts (ra.belowR b1)
  have f4 := box4_facts (rb.belowR b1)
  replace c2 := (c2.below hw).below b1
  replace a2 := (a2.below hw).below b1
  clear f1 f2
  go_wp2_with fail
  refine (sameV c2 a2 z2.out (by omega)).mono ?_
  rintro ev w2 ⟨rfl, b2⟩
  go_wp2_with fail
  go_ret
  exact ⟨rfl, (hw.trans (b1.mono hw.size)).trans (b2.mono (Nat.le_trans hw.size b1.size))⟩
end Go.Proofs.YtlgecdkidgjgiaaDoor
