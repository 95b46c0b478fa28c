/- What the variables that the rows list read as: the library's name of the type 'error'; worlds that meet the conditions. -/
import Derived.Test.YtlgecdkidgjgiaaDoorLaid
import Derived.Test.YtlgecdkidgjgiaaDoorAs
namespace Go.Proofs.YtlgecdkidgjgiaaDoor
open Go.ChangeShapes Go.WideShapes Go.RowKit

theorem errGlobal : Tryd.prog.globalNamed "errors.errorType" = some 0 := by kernel_rfl
theorem errRtype : (Tryd.prog.cutTypes.find? (·.1 == "internal/reflectlite.rtype")).map (·.2) = some 130 := by kernel_rfl
theorem errSize : Tryd.prog.types.size = 172 := by kernel_rfl
theorem errOneRow : ((List.range 172).filter fun t => Tryd.prog.rowNamed t [101, 114, 114, 111, 114]) = [31] := by kernel_rfl

theorem err_of_handles {W : World} (h : handlesMet Tryd.prog [("errors.errorType", Rows.laid_errors_errorType)] W) : ErrOk W := by
  obtain ⟨name, u, ty, e1, e2, e3, e4, e5⟩ := h _ (List.mem_singleton.2 rfl)
  have en : name = [101, 114, 114, 111, 114] := (Option.some.inj e1).symm
  subst en
  obtain rfl := Option.some.inj (errRtype.symm.trans e2)
  have hm : ty ∈ (List.range 172).filter fun t => Tryd.prog.rowNamed t [101, 114, 114, 111, 114] := List.mem_filter.2 ⟨List.mem_range.2 (by rw [← errSize]; exact e3), e4⟩
  rw [errOneRow] at hm
  obtain rfl := List.mem_singleton.1 hm
  have hh : typeHandle Tryd.prog 31 = .pointer (some ⟨2, 31, none⟩) := by kernel_rfl
  rw [hh] at e5
  have := World.var?_cell errGlobal e5 0
  unfold ErrOk
  simpa using this
theorem err_of_laid {W : World} (h : laidMetH Tryd.prog [("errors.errorType", Rows.laid_errors_errorType)] W) : ErrOk W := by
  have h' : laidMet Tryd.prog [] W ∧ handlesMet Tryd.prog [("errors.errorType", Rows.laid_errors_errorType)] W := h
  exact err_of_handles h'.2
theorem both_of_laid {W : World} (h : laidMetH Tryd.prog [("math/bits.deBruijn64tab", Rows.laid_math_bits_deBruijn64tab), ("errors.errorType", Rows.laid_errors_errorType)] W) : TabOk W ∧ ErrOk W := by
  have h' : laidMet Tryd.prog [("math/bits.deBruijn64tab", Rows.laid_math_bits_deBruijn64tab)] W ∧ handlesMet Tryd.prog [("errors.errorType", Rows.laid_errors_errorType)] W := h
  exact ⟨tab_of_laid h'.1, err_of_handles h'.2⟩

noncomputable def layErr (w0 : World) : World :=
  { w0 with heap := w0.heap.modify 0 fun
      | .cells _ t frozen => .cells #[.iface 130 (.agg #[.pointer (some ⟨2, 31, none⟩)])] t frozen
      | o => o }
/-- A world that meets the one condition. -/
noncomputable def laidWorldE (os : Os) : World := layErr (World.holding Tryd.prog os ⟨#[], #[], []⟩)
theorem laidWorldE_met (os : Os) (args : Array Value) : laidMetH Tryd.prog [("errors.errorType", Rows.laid_errors_errorType)] ((laidWorldE os).forCall (fun _ _ => 0) ⟨#[], args, []⟩).memory :=
  laidMetH_of_parts (laidMet_nil _ _) (by kernel_rfl)
/-- A world that meets both. -/
noncomputable def laidWorld2 (os : Os) : World := layErr (laidWorld os)
theorem laidWorld2_met (os : Os) (args : Array Value) : laidMetH Tryd.prog [("math/bits.deBruijn64tab", Rows.laid_math_bits_deBruijn64tab), ("errors.errorType", Rows.laid_errors_errorType)] ((laidWorld2 os).forCall (fun _ _ => 0) ⟨#[], args, []⟩).memory :=
  laidMetH_of_parts (laidMet_of_run' 4 (by kernel_rfl) (by kernel_rfl)) (by kernel_rfl)
end Go.Proofs.YtlgecdkidgjgiaaDoor
