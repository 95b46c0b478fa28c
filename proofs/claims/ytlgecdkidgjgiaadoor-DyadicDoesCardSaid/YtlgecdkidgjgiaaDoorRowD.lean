/- A dyadic number that came in as an argument: what its value looks like. -/
import Derived.Test.YtlgecdkidgjgiaaDoorRow
namespace Go.Proofs.YtlgecdkidgjgiaaDoor
open Go.ChangeShapes Go.WideShapes Go.ChangeAt Go.RowKit Go.Joins

theorem cellsDy : Tryd.prog.cellsOf 29 = 3 := by kernel_rfl
theorem cellsInt1 : Tryd.prog.cellsOf 3 = 1 := by kernel_rfl
theorem cellsBool : Tryd.prog.cellsOf 4 = 1 := by kernel_rfl
theorem cellsSl : Tryd.prog.cellsOf 25 = 1 := by kernel_rfl

set_option maxRecDepth 100000 in
theorem whole_cells {H : Type} {enc : TypeId × Value → H} {w : World} {m : Nat} {c0 c1 : Value} {x : DataW H × List MemPlace}
    (h : DataW.trod enc Tryd.prog w 0 (fun _ => true) true m 27 [c0, c1] = some x) :
    ∃ (s : Bool) (A : Option Addr) (n c : Nat) (xs : List Int), c0 = .bool s ∧ c1 = .slice A n c ∧ n ≤ c ∧ RdS w .u64 A n xs ∧ Dg B64 xs := by
  obtain ⟨y0, y1, k, _, _, h0, h1⟩ := trod_struct2 Tryd.underlying27 h
  have hy0 : DataW.trod enc Tryd.prog w 0 (fun _ => true) true k 4 [c0] = some y0 := by simpa [cellsBool] using h0
  have hy1 : DataW.trod enc Tryd.prog w 0 (fun _ => true) true k 25 [c1] = some y1 := by simpa [cellsSl] using h1
  obtain ⟨s, e0, rfl⟩ := DataW.trod_bool Tryd.underlying4 hy0
  simp only [List.cons.injEq, and_true] at e0
  subst e0
  rcases open_ints Tryd.underlying25 Tryd.underlying22 cellsU64 hy1 with ⟨hcs, hx⟩ | ⟨a, n, c, zs, hcs, _, hl, hm, hz, hx, hcell, hwz⟩
  · simp only [List.cons.injEq, and_true] at hcs
    subst hcs
    exact ⟨s, none, 0, 0, [], rfl, rfl, Nat.le_refl _, ⟨rfl, fun h => absurd h (by omega)⟩, Dg.nil (by decide)⟩
  · simp only [List.cons.injEq, and_true] at hcs
    subst hcs
    simp only [if_true] at hz
    refine ⟨s, some a, n, c, zs.take n, rfl, rfl, hl, ⟨by simp; omega, fun hn => ?_⟩, dg_of fun x hx => hwz x (List.mem_of_mem_take hx)⟩
    obtain ⟨b, o, rfl, hc⟩ := ints_at hcell (by omega)
    refine ⟨b, o, rfl, fun j hj => ?_⟩
    rw [hc j (by omega)]
    simp [hj]

set_option maxRecDepth 100000 in
theorem open_dyadic {H : Type} {enc : TypeId × Value → H} {r : Reach} {b0 : Nat} {w : World} {v : Value} {d : DataW H} {p : List MemPlace}
    (hv : Value.okWide Tryd.prog w r b0 29 v) (h : DataW.Trod enc Tryd.prog w 0 (fun _ => true) true 29 v d p) :
    ∃ (s : Bool) (A : Option Addr) (n c : Nat) (xs : List Int) (e : Int), v = .agg #[.bool s, .slice A n c, .int .i64 e] ∧ n ≤ c ∧ RdS w .u64 A n xs ∧ Dg B64 xs ∧ (Lit.int .i64 e).wf = true := by
  obtain ⟨cs, rfl, hsz⟩ := okWide_struct Tryd.underlying29 hv
  have hsz3 : cs.size = 3 := hsz.trans cellsDy
  obtain ⟨c0, c1, c2, rfl⟩ : ∃ c0 c1 c2, cs = #[c0, c1, c2] := by
    match cs, hsz3 with
    | ⟨[a, b, c]⟩, _ => exact ⟨a, b, c, rfl⟩
  obtain ⟨fuel, hf⟩ := h
  obtain ⟨y0, y1, k, _, _, h0, h1⟩ := trod_struct2 Tryd.underlying29 hf
  have hy0 : DataW.trod enc Tryd.prog w 0 (fun _ => true) true k 27 [c0, c1] = some y0 := by simpa [cellsInt, Value.cells] using h0
  have hy1 : DataW.trod enc Tryd.prog w 0 (fun _ => true) true k 3 [c2] = some y1 := by simpa [cellsInt1, Value.cells] using h1
  obtain ⟨s, A, n, c, xs, rfl, rfl, g1, g2, g3⟩ := whole_cells hy0
  obtain ⟨e, he, _, hw⟩ := DataW.trod_int Tryd.underlying3 hy1
  simp only [List.cons.injEq, and_true] at he
  subst he
  exact ⟨s, A, n, c, xs, e, rfl, g1, g2, g3, hw⟩
end Go.Proofs.YtlgecdkidgjgiaaDoor
