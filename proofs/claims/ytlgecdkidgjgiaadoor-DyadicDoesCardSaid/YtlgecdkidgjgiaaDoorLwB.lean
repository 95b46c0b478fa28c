/- The walk of the first function of the laws of whole numbers: answers that the document fixes. -/
import Derived.Test.YtlgecdkidgjgiaaDoorLwA
namespace Go.Proofs.YtlgecdkidgjgiaaDoor
open Go.RowKit

theorem sz_small {z : Int} (h : z.natAbs < 18446744073709551616) : Sz z 1 := by
  show (z.natAbs : Int) < B64 ^ 1
  unfold B64; omega
theorem sz_zero : Sz 0 0 := by unfold Sz; decide

/-- a literal number of one limb -/
theorem lit_cv (s : Bool) (x : Int) (h0 : 0 < x) (h1 : x < 18446744073709551616) (w : World) (e : TypeId) :
    CV (w.alloc (.cells #[.int .u64 x] e)) (.agg #[.bool s, .slice (some ⟨w.heap.size, 0, none⟩) 1 1]) (if s then -x else x) := by
  have rr : Row (w.alloc (.cells #[.int .u64 x] e)) w.heap.size e (nums .u64 [x]) := Row.new w e #[.int .u64 x]
  refine ⟨s, [x], _, 1, rfl, Nat.le_refl _, rr.reads 1 rfl, ⟨Dg.cons.2 ⟨by unfold B64; omega, Dg.nil (by decide)⟩, .inr (by simp; omega), ?_⟩, ?_⟩
  · simp [vl]; cases s <;> simp <;> omega
  · cases s <;> simp <;> omega

theorem Row.belowR {w w' : World} {g : Nat} {e : TypeId} {arr : Array Value} (h : Row w g e arr) (hb : Below w.heap.size w w') : Row w' g e arr := h.below hb h.lt
theorem Row.newE {w : World} {g : Nat} {e : TypeId} {arr : Array Value} (hg : g = w.heap.size) : Row (w.alloc (.cells arr e)) g e arr := by rw [hg]; exact Row.new w e arr
theorem Row.newN {w : World} {e : TypeId} {arr : Array Value} (o : Obj) : Row ((w.alloc o).alloc (.cells arr e)) (w.heap.size + 1) e arr := Row.newE (by simp)
theorem Row.allocR {w : World} {g : Nat} {e : TypeId} {arr : Array Value} (h : Row w g e arr) (o : Obj) : Row (w.alloc o) g e arr := h.belowR ((Below.refl _ _).alloc (Nat.le_refl _) o)

theorem al_ (w : World) (o : Obj) : Below w.heap.size w (w.alloc o) := (Below.refl _ _).alloc (Nat.le_refl _) o
theorem dr_ (w : World) : Below w.heap.size w w.drew := (Below.refl _ _).drew
theorem two_boxes {w : World} {g g' : Nat} {e e' : TypeId} {a0 a1 b0 b1 : Value} (h : Row w g e #[a0, a1]) (h' : Row w g' e' #[b0, b1]) :
    w.cell? ⟨g, 0, none⟩ = some a0 ∧ w.cell? ⟨g, 1, none⟩ = some a1 ∧ w.cell? ⟨g', 0, none⟩ = some b0 ∧ w.cell? ⟨g', 1, none⟩ = some b1 :=
  ⟨(box_facts h).1, (box_facts h).2.1, (box_facts h').1, (box_facts h').2.1⟩
theorem Row.sets {w : World} {g g' : Nat} {e : TypeId} {arr : Array Value} (h : Row w g e arr) (u0 u1 : Value) (hne : g ≠ g') : Row ((w.setCell ⟨g', 0, none⟩ u0).setCell ⟨g', 1, none⟩ u1) g e arr :=
  (h.other _ u0 hne).other _ u1 hne
theorem Below.sets {B g : Nat} {w U : World} (h : Below B w U) (hg : B ≤ g) (u0 u1 : Value) : Below B w ((U.setCell ⟨g, 0, none⟩ u0).setCell ⟨g, 1, none⟩ u1) :=
  (h.setCell (p := ⟨g, 0, none⟩) hg u0).setCell (p := ⟨g, 1, none⟩) hg u1
theorem DV.sets {w : World} {v : Value} {z : Int} {g : Nat} {e : TypeId} {b0 : Bool} {a0 : Option Addr} {n0 c0 : Nat} (h : DV w v z) (hb : Row w g e #[.bool b0, .slice a0 n0 c0]) (u0 u1 : Value) :
    DV ((w.setCell ⟨g, 0, none⟩ u0).setCell ⟨g, 1, none⟩ u1) v z := by
  obtain ⟨t, zs, B, d, h1, h2, h3, h4⟩ := h
  exact ⟨t, zs, B, d, h1, h2, h3.set2 hb u0 u1, h4⟩
theorem DV.shape {w : World} {v : Value} {z : Int} (h : DV w v z) : ∃ (t : Bool) (B : Option Addr) (n d : Nat), v = .agg #[.bool t, .slice B n d] := by
  obtain ⟨t, zs, B, d, h1, _⟩ := h
  exact ⟨t, B, _, d, h1⟩

set_option maxHeartbeats 1600000 in
theorem awake_any (w : World) : Calls Tryd.prog 21 #[] w fun e w' => e = .returned (.bool true) ∧ Below w.heap.size w w' := by
  go_enter Tryd.func21, Tryd.ntmps21
  go_wp2_with fail
  refine (ofV (-3) (by omega) (by omega)).mono ?_
  rintro e w1 ⟨va, rfl, ca, b1⟩
  go_wp2_with fail
  refine (ofV 5 (by omega) (by omega)).mono ?_
  rintro e w2 ⟨vb, rfl, cb, b2⟩
  have ca2 := ca.below b2
  go_wp2_with fail
  refine (mulV (ca2.iv (sz_small (by decide))) (cb.iv (sz_small (by decide))) (by omega) (by omega)).mono ?_
  rintro e w3 ⟨vp, rfl, cp, b3⟩
  obtain ⟨tp, Bp, np, dp, rfl⟩ := cp.shape
  go_wp2_with fail
  have hw := below_new2 w3 (.cells #[.bool tp, .slice Bp np dp] 27) (.cells #[.int .u64 15] 22)
  have cl := lit_cv true 15 (by omega) (by omega) (w3.alloc (.cells #[.bool tp, .slice Bp np dp] 27)) 22
  rw [show (w3.alloc (.cells #[.bool tp, .slice Bp np dp] 27)).heap.size = w3.heap.size + 1 by simp] at cl
  generalize (w3.alloc (.cells #[.bool tp, .slice Bp np dp] 27)).alloc (.cells #[.int .u64 15] 22) = W at *
  refine (sameV (cp.below hw) cl (sz_small (by decide)) (by omega)).mono ?_
  rintro e w4 ⟨rfl, b4⟩
  have B4 := on_ (on_ (on_ (on_ b1 b2) b3) hw) b4
  clear ca ca2 cb cp cl b1 b2 b3 hw b4
  go_wp2_with fail
  refine (ofV (-3) (by omega) (by omega)).mono ?_
  rintro e w5 ⟨va, rfl, ca, b5⟩
  go_wp2_with fail
  refine (ofV 5 (by omega) (by omega)).mono ?_
  rintro e w6 ⟨vb, rfl, cb, b6⟩
  go_wp2_with fail
  refine (addV ((ca.below b6).iv (sz_small (by decide))) (cb.iv (sz_small (by decide))) (by omega) (by omega)).mono ?_
  rintro e w7 ⟨vs, rfl, cs, b7⟩
  go_wp2_with fail
  refine (ofV 2 (by omega) (by omega)).mono ?_
  rintro e w8 ⟨vd, rfl, cd, b8⟩
  go_wp2_with fail
  refine (sameV (cs.below b8) cd (sz_small (by decide)) (by omega)).mono ?_
  rintro e w9 ⟨rfl, b9⟩
  go_wp2_with fail
  refine (wsign_any true none 0 [] 0 w9 (RdS.nil w9 _ _) (by omega) (by omega) (Dg.nil (by decide))).mono ?_
  rintro e w10 ⟨rfl, b10⟩
  rw [show sgz (zi true []) = 0 by decide]
  go_wp2_with fail
  go_ret
  exact ⟨rfl, on_ (on_ (on_ (on_ (on_ (on_ B4 b5) b6) b7) b8) b9) b10⟩
end Go.Proofs.YtlgecdkidgjgiaaDoor
