/- WholeProductsCardSaid: for whatever two whole numbers and whatever power the law of products returns true, and all read as they did; the variable that it reads is tied to the program's text. -/
import Derived.Test.YtlgecdkidgjgiaaDoorLw2P
import Derived.Test.YtlgecdkidgjgiaaDoorRowD
import Derived.Test.YtlgecdkidgjgiaaDoorLaidH
import Derived.Test.YtlgecdkidgjgiaaDoorTie
import Derived.Test.YtlgecdkidgjgiaaDoorCards
import Derived.Carry
import Derived.ProofKit
import Derived.OpenShut
import Derived.SevenTiedAt
namespace Go.Proofs.YtlgecdkidgjgiaaDoor
open Go.ChangeShapes Go.WideShapes Go.ChangeAt Go.RowKit

namespace ProductsRow
theorem own : ownKnob Tryd.prog.godebug = none := by kernel_rfl
theorem laidOut : laidOutB Tryd.prog = true := by kernel_rfl

set_option maxRecDepth 100000 in
theorem lifted (os : Os) (started : os.Started) (H : Type) (enc : TypeId × Value → H) :
    ReturnsInHanded {} Tryd.checked os 5 .any (fun w args => (Rows.wholeProductsSpec.pre enc Tryd.prog Tryd.f5 [] false w args ∧ laidMetH Tryd.prog [("errors.errorType", Rows.laid_errors_errorType)] w) ∧ sizedMet enc Tryd.prog Tryd.f5 (OpenSpec.ofChange Rows.wholeProductsSpec) false w args)
      (Rows.wholeProductsSpec.post enc Tryd.prog Tryd.f5 false true false false) := by
  refine returnsInHanded_of_change_and (C := Tryd.checked) (X := fun w _ => laidMetH Tryd.prog [("errors.errorType", Rows.laid_errors_errorType)] w) (fun _ _ _ hh h => h.of_heap hh) own started (by kernel_rfl) Tryd.func5
    (ChangeSpec.witness_at (enc := enc) (C := Tryd.checked) (os := os) (X := fun w _ => laidMetH Tryd.prog [("errors.errorType", Rows.laid_errors_errorType)] w) false (laidWorldE os) #[.agg #[.bool false, .slice none 0 0], .agg #[.bool false, .slice none 0 0], .int .i64 0] 8 rfl (by kernel_rfl) (by kernel_rfl) (by kernel_rfl) (by kernel_rfl) (by kernel_rfl) (laidWorldE_met os _)) ?_
  intro W base args ds gs before hval0 hW hcnd _ hL _
  have hval : ∀ (j : Nat) t v, Tryd.f5.params[j]? = some t → args[j]? = some v → Value.okWide Tryd.prog W .any base t v := hval0
  have hW' := hW
  obtain ⟨p, q, hA0, hV, rfl, hfz, hnd⟩ := hW
  have hA : DataW.TrodAll enc Tryd.prog W 0 (fun _ => true) true Tryd.f5.params.toList args.toList ds p := hA0
  rw [Tryd.params5] at hA hval
  obtain ⟨v0, v1, v2, d0, d1, d2, p0, p1, p2, rfl, rfl, rfl, h0, h1, h2⟩ := trodAll_three hA
  obtain ⟨rfl, rfl⟩ := trodVars_none hV
  have he : ErrOk W := err_of_laid hL
  obtain ⟨v, rfl, rfl, rfl, wv⟩ := open_int Tryd.underlying3 (hval 2 3 v2 rfl rfl) h2
  simp only [List.append_nil] at hW'
  have hlt : ∀ x ∈ p0 ++ p1, x.block < W.heap.size := fun x hx => by simpa using hW'.lt x hx
  have k0 : ∀ (W' : World), Below W.heap.size W W' → DataW.Trod enc Tryd.prog W' 0 (fun b => decide (b < W.heap.size)) true 27 v0 d0 p0 :=
    fun W' hn => Below.trod laidOut (by kernel_rfl) (of_decide_eq_true (by kernel_rfl)) h0 hn fun x hx => hlt x (List.mem_append_left _ hx)
  have k1 : ∀ (W' : World), Below W.heap.size W W' → DataW.Trod enc Tryd.prog W' 0 (fun b => decide (b < W.heap.size)) true 27 v1 d1 p1 :=
    fun W' hn => Below.trod laidOut (by kernel_rfl) (of_decide_eq_true (by kernel_rfl)) h1 hn fun x hx => hlt x (List.mem_append_right _ hx)
  obtain ⟨s, A, n, c, xs, rfl, hc, hr, hx⟩ := open_whole (hval 0 27 v0 rfl rfl) h0
  obtain ⟨s', A', n', c', ys, rfl, hc', hr', hy⟩ := open_whole (hval 1 27 v1 rfl rfl) h1
  clear hA0 hval0
  refine (products_any s s' A A' n n' c c' xs ys v W he hr hr' hc hc' hx hy).mono fun ev W' ⟨he, hB⟩ => ?_
  subst he
  exact ⟨_, rfl, _, _, _, [], p0 ++ (p1 ++ []), [], hW', trodAll_mk1 (shut_bool Tryd.underlying4 true), trodAll_mk3 (k0 W' hB) (k1 W' hB) (shut_int Tryd.underlying3 wv), rfl, hB.frame _, fun h => by cases h⟩
end ProductsRow

theorem wholeProducts_row : Rows.WholeProductsSaid :=
  OpenClaim.holds_of_wide 5 Tryd.f5 rfl rfl rfl rfl rfl rfl rfl ⟨rfl, rfl, rfl, rfl, rfl⟩ rfl rfl rfl rfl rfl (by kernel_rfl) Tryd.func5 (by kernel_rfl)
    (of_decide_eq_true (by kernel_rfl)) (by unfold Func.isWrapper; rw [if_neg (of_decide_eq_false (by kernel_rfl))]; exact ⟨rfl, rfl⟩)
    (fun os started H enc _ => ProductsRow.lifted os started H enc)

theorem wholeProducts_card : Rows.WholeProductsCardSaid :=
  Claim7.holds_tied_plain_at .later [] [.handle] true (true, "79417347c266c5b4dfd03fc519a071e5728c7ebc9a57e594f54220cd03f01897") true
    wholeProducts_row (fun _ h => by cases h) (by kernel_rfl) (fun _ h => by cases h) wholeProducts_row_tie rfl ⟨rfl, rfl⟩ (by kernel_rfl) rfl
    (fun f fn hf hfn => by
      obtain rfl : f = 5 := Option.some.inj ((show Tryd.prog.funcNamed "outrigger/outriggerlaw02.WholeProducts" = some 5 by kernel_rfl).symm.trans hf) |>.symm
      obtain rfl : fn = Tryd.f5 := (Option.some.inj (Tryd.func5.symm.trans hfn)).symm
      exact ⟨by kernel_rfl, fun j t ht => by
        rw [Tryd.params5] at ht
        have h3 : t = 27 ∨ t = 3 := by
          match j with
          | 0 => exact .inl (by simpa using ht.symm)
          | 1 => exact .inl (by simpa using ht.symm)
          | 2 => exact .inr (by simpa using ht.symm)
          | j + 3 => simp at ht
        rcases h3 with rfl | rfl
        · exact (show Tryd.prog.wantsStandIn 27 = false by kernel_rfl)
        · exact (show Tryd.prog.wantsStandIn 3 = false by kernel_rfl)⟩)
    (by kernel_rfl)
#print axioms wholeProducts_card
end Go.Proofs.YtlgecdkidgjgiaaDoor
