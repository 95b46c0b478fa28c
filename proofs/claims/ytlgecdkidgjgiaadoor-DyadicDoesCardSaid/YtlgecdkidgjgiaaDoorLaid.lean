/- What the variables that the rows list read as: the table of math/bits, cell by cell; a world that meets it. -/
import Derived.Test.YtlgecdkidgjgiaaDoorRows
import Derived.Test.YtlgecdkidgjgiaaDoorTz
import Derived.ChangeSame
import Derived.ChangeVars
import Derived.JoinedOf
import Derived.RowKit
import Derived.RowKitTokens
import Derived.LaidLaws
import Derived.LaidHandle
import Derived.Stop.Joined
namespace Go.Proofs.YtlgecdkidgjgiaaDoor
open Go.ChangeShapes Go.WideShapes Go.RowKit

theorem mapM_at {α β : Type} {f : α → Option β} : ∀ {l : List α} {xs : List β}, l.mapM f = some xs → ∀ (i : Nat) (a : α), l[i]? = some a → ∃ b, xs[i]? = some b ∧ f a = some b := by
  intro l
  induction l with
  | nil => intro xs _ i a ha; simp at ha
  | cons x l ih =>
    intro xs h i a ha
    simp only [List.mapM_cons, Option.bind_eq_bind, Option.bind_eq_some_iff, Option.pure_def, Option.some.injEq] at h
    obtain ⟨y, hy, ys, hys, rfl⟩ := h
    cases i with
    | zero =>
      simp only [List.getElem?_cons_zero, Option.some.injEq] at ha
      subst ha
      exact ⟨y, by simp, hy⟩
    | succ i =>
      simp only [List.getElem?_cons_succ] at ha ⊢
      exact ih hys i a ha
theorem int_of_trod {H : Type} {enc : TypeId × Value → H} {P : Program} {w : World} {base : Nat} {sp : Nat → Bool} {held : Bool} {fuel : Nat} {t : TypeId} {k : IntKind} {c : Value} {y : DataW H × List MemPlace}
    (ht : P.underlying t = some (.int k)) (h : DataW.trod enc P w base sp held fuel t [c] = some y) : ∃ n, c = .int k n ∧ y = (.lit (.int k n), []) := by
  cases fuel with
  | zero => simp [DataW.trod] at h
  | succ fuel =>
    cases c <;> simp [DataW.trod, ht] at h
    rename_i k' n
    obtain ⟨⟨rfl, _⟩, rfl⟩ := h
    exact ⟨n, rfl, rfl⟩
theorem tabGlobal : Tryd.prog.globalNamed "math/bits.deBruijn64tab" = some 1 := by kernel_rfl
theorem tabType : (Tryd.prog.globals[1]?).map (·.type) = some 126 := by kernel_rfl
theorem cellsTab : Tryd.prog.cellsOf 126 = 64 := by kernel_rfl
theorem cellsU8 : Tryd.prog.cellsOf 5 = 1 := by kernel_rfl
theorem tabLaid {H : Type} : (Rows.laid_math_bits_deBruijn64tab : DataW H) = .agg (tab64.map fun t => .lit (.int .u8 t)) := rfl

set_option maxRecDepth 100000 in
theorem tab_of_laid {W : World} (h : laidMet Tryd.prog [("math/bits.deBruijn64tab", Rows.laid_math_bits_deBruijn64tab)] W) : TabOk W := by
  obtain ⟨ps, ⟨g, t, cs, fuel, p, q, hg, ht, hvar, hd, _, _⟩, _⟩ := h
  obtain rfl := Option.some.inj (tabGlobal.symm.trans hg)
  obtain rfl := Option.some.inj (tabType.symm.trans ht)
  intro j hj
  rw [World.var?_cell tabGlobal hvar j]
  obtain ⟨l⟩ := cs
  cases fuel with
  | zero => simp [DataW.trod] at hd
  | succ fuel =>
    simp only [DataW.trod, Tryd.underlying126, cellsTab, cellsU8] at hd
    split at hd
    · rename_i hl
      simp only [Option.map_eq_some_iff] at hd
      obtain ⟨xs, hxs, hx⟩ := hd
      obtain ⟨y, hy, hf⟩ := mapM_at hxs j j (by simp [List.getElem?_range hj])
      have e1 : (l.drop (j * 1)).take 1 = [l[j]'(by omega)] := by
        rw [Nat.mul_one, List.drop_eq_getElem_cons (by omega)]; rfl
      rw [e1] at hf
      obtain ⟨n, hn, hyy⟩ := int_of_trod Tryd.underlying5 hf
      subst hyy
      rw [tabLaid] at hx
      simp only [Prod.mk.injEq, DataW.agg.injEq] at hx
      have e2 : (xs.map (·.1))[j]? = some (.lit (.int .u8 n)) := by rw [List.getElem?_map, hy]; rfl
      rw [hx.1, List.getElem?_map] at e2
      have hj2 : j < tab64.length := hj
      rw [List.getElem?_eq_getElem hj2] at e2
      simp only [Option.map_some, Option.some.injEq, DataW.lit.injEq, Lit.int.injEq, true_and] at e2
      rw [List.getElem?_toArray, List.getElem?_eq_getElem (by omega), hn, List.getElem?_eq_getElem hj2, e2]
      rfl
    · cases hd

/-- A world that meets it: the settled one, the table laid. -/
noncomputable def laidWorld (os : Os) : World :=
  let w0 := World.holding Tryd.prog os ⟨#[], #[], []⟩
  { w0 with heap := w0.heap.modify 1 fun
      | .cells _ t frozen => .cells (tab64.map fun x => Value.int .u8 x).toArray t frozen
      | o => o }
theorem laidWorld_met (os : Os) (args : Array Value) : laidMetH Tryd.prog [("math/bits.deBruijn64tab", Rows.laid_math_bits_deBruijn64tab)] ((laidWorld os).forCall (fun _ _ => 0) ⟨#[], args, []⟩).memory :=
  laidMet_of_run' 4 (by kernel_rfl) (by kernel_rfl)
end Go.Proofs.YtlgecdkidgjgiaaDoor
