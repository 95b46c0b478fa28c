/- A whole number that came in as an argument: what its value looks like. -/
import Derived.Test.YtlgecdkidgjgiaaDoorBase
import Derived.ProofKit
import Derived.OpenShut
import Derived.Lib.SmallJoins
namespace Go.Proofs.YtlgecdkidgjgiaaDoor
open Go.ChangeShapes Go.WideShapes Go.ChangeAt Go.RowKit Go.Joins

theorem cellsInt : Tryd.prog.cellsOf 27 = 2 := by kernel_rfl
theorem cellsU64 : Tryd.prog.cellsOf 22 = 1 := by kernel_rfl

theorem dg_of {zs : List Int} (h : ∀ n ∈ zs, (Lit.int .u64 n).wf = true) : Dg B64 zs := by
  induction zs with
  | nil => exact Dg.nil (by decide)
  | cons x r ih =>
    have := bounds_u64 (h x (by simp))
    exact Dg.cons.2 ⟨by unfold B64; omega, ih fun n hn => h n (by simp [hn])⟩

set_option maxRecDepth 100000 in
theorem open_whole {H : Type} {enc : TypeId × Value → H} {r : Reach} {b0 : Nat} {w : World} {v : Value} {d : DataW H} {p : List MemPlace}
    (hv : Value.okWide Tryd.prog w r b0 27 v) (h : DataW.Trod enc Tryd.prog w 0 (fun _ => true) true 27 v d p) :
    ∃ (s : Bool) (A : Option Addr) (n c : Nat) (xs : List Int), v = .agg #[.bool s, .slice A n c] ∧ n ≤ c ∧ RdS w .u64 A n xs ∧ Dg B64 xs := by
  obtain ⟨c0, c1, y0, y1, m, rfl, rfl, rfl, hy0, hy1⟩ := open_agg2 Tryd.underlying27 (by kernel_rfl) cellsInt hv h
  obtain ⟨s, e0, rfl⟩ := DataW.trod_bool Tryd.underlying4 hy0
  simp only [List.cons.injEq, and_true] at e0
  subst e0
  rcases open_ints Tryd.underlying25 Tryd.underlying22 cellsU64 hy1 with ⟨hcs, hx⟩ | ⟨a, n, c, zs, hcs, _, hl, hm, hz, hx, hcell, hwz⟩
  · simp only [List.cons.injEq, and_true] at hcs
    subst hcs
    exact ⟨s, none, 0, 0, [], rfl, Nat.le_refl _, ⟨rfl, fun h => absurd h (by omega)⟩, Dg.nil (by decide)⟩
  · simp only [List.cons.injEq, and_true] at hcs
    subst hcs
    simp only [if_true] at hz
    refine ⟨s, some a, n, c, zs.take n, rfl, hl, ⟨by simp; omega, fun hn => ?_⟩, dg_of fun x hx => hwz x (List.mem_of_mem_take hx)⟩
    obtain ⟨b, o, rfl, hc⟩ := ints_at hcell (by omega)
    refine ⟨b, o, rfl, fun j hj => ?_⟩
    rw [hc j (by omega)]
    simp [hj]
end Go.Proofs.YtlgecdkidgjgiaaDoor
