/- DyadicFloatsCardSaid: for whatever bits the law of floats' dyadic numbers returns true, and all read as they did; the table that it reads is tied to the program's text. -/
import Derived.Test.YtlgecdkidgjgiaaDoorLw6F
import Derived.Test.YtlgecdkidgjgiaaDoorLaid
import Derived.Test.YtlgecdkidgjgiaaDoorTie
import Derived.Test.YtlgecdkidgjgiaaDoorCards
import Derived.Carry
import Derived.ProofKit
import Derived.OpenShut
import Derived.SevenTiedAt
namespace Go.Proofs.YtlgecdkidgjgiaaDoor
open Go.ChangeShapes Go.WideShapes Go.ChangeAt Go.RowKit

namespace FloatsRow
theorem own : ownKnob Tryd.prog.godebug = none := by kernel_rfl
theorem laidOut : laidOutB Tryd.prog = true := by kernel_rfl

set_option maxRecDepth 100000 in
theorem lifted (os : Os) (started : os.Started) (H : Type) (enc : TypeId × Value → H) :
    ReturnsInHanded {} Tryd.checked os 3 .any (fun w args => (Rows.dyadicFloatsSpec.pre enc Tryd.prog Tryd.f3 [] false w args ∧ laidMetH Tryd.prog [("math/bits.deBruijn64tab", Rows.laid_math_bits_deBruijn64tab)] w) ∧ sizedMet enc Tryd.prog Tryd.f3 (OpenSpec.ofChange Rows.dyadicFloatsSpec) false w args)
      (Rows.dyadicFloatsSpec.post enc Tryd.prog Tryd.f3 false true false false) := by
  refine returnsInHanded_of_change_and (C := Tryd.checked) (X := fun w _ => laidMetH Tryd.prog [("math/bits.deBruijn64tab", Rows.laid_math_bits_deBruijn64tab)] w) (fun _ _ _ hh h => h.of_heap hh) own started (by kernel_rfl) Tryd.func3
    (ChangeSpec.witness_at (enc := enc) (C := Tryd.checked) (os := os) (X := fun w _ => laidMetH Tryd.prog [("math/bits.deBruijn64tab", Rows.laid_math_bits_deBruijn64tab)] w) false (laidWorld os) #[.int .u64 0, .int .u64 0, .int .u64 0, .int .u64 0] 8 rfl (by kernel_rfl) (by kernel_rfl) (by kernel_rfl) (by kernel_rfl) (by kernel_rfl) (laidWorld_met os _)) ?_
  intro W base args ds gs before hval0 hW hcnd _ hL _
  have hval : ∀ (j : Nat) t v, Tryd.f3.params[j]? = some t → args[j]? = some v → Value.okWide Tryd.prog W .any base t v := hval0
  have hW' := hW
  obtain ⟨p, q, hA0, hV, rfl, hfz, hnd⟩ := hW
  have hA : DataW.TrodAll enc Tryd.prog W 0 (fun _ => true) true Tryd.f3.params.toList args.toList ds p := hA0
  rw [Tryd.params3] at hA hval
  obtain ⟨v0, v1, v2, v3, d0, d1, d2, d3, p0, p1, p2, p3, rfl, rfl, rfl, h0, h1, h2, h3⟩ := trodAll_four hA
  obtain ⟨rfl, rfl⟩ := trodVars_none hV
  simp only [List.append_nil] at hW'
  have ht : TabOk W := tab_of_laid hL
  obtain ⟨a, rfl, rfl, rfl, wa⟩ := open_int Tryd.underlying22 (hval 0 22 v0 rfl rfl) h0
  obtain ⟨b, rfl, rfl, rfl, wb⟩ := open_int Tryd.underlying22 (hval 1 22 v1 rfl rfl) h1
  obtain ⟨c, rfl, rfl, rfl, wc⟩ := open_int Tryd.underlying22 (hval 2 22 v2 rfl rfl) h2
  obtain ⟨d, rfl, rfl, rfl, wd⟩ := open_int Tryd.underlying22 (hval 3 22 v3 rfl rfl) h3
  have ba := bounds_u64 wa
  have bb := bounds_u64 wb
  have bc := bounds_u64 wc
  have bd := bounds_u64 wd
  clear hA0 hval0
  refine (floats_any a b c d W ht ba.1 (by unfold B64; omega) bb.1 (by unfold B64; omega) bc.1 (by unfold B64; omega) bd.1 (by unfold B64; omega)).mono fun e W' ⟨he, hB⟩ => ?_
  subst he
  exact ⟨_, rfl, _, _, _, [], _, [], hW', trodAll_mk1 (shut_bool Tryd.underlying4 true), trodAll_mk4 (shut_int Tryd.underlying22 wa) (shut_int Tryd.underlying22 wb) (shut_int Tryd.underlying22 wc) (shut_int Tryd.underlying22 wd), rfl, hB.frame _, fun h => by cases h⟩
end FloatsRow

theorem dyadicFloats_row : Rows.DyadicFloatsSaid :=
  OpenClaim.holds_of_wide 3 Tryd.f3 rfl rfl rfl rfl rfl rfl rfl ⟨rfl, rfl, rfl, rfl, rfl⟩ rfl rfl rfl rfl rfl (by kernel_rfl) Tryd.func3 (by kernel_rfl)
    (of_decide_eq_true (by kernel_rfl)) (by unfold Func.isWrapper; rw [if_neg (of_decide_eq_false (by kernel_rfl))]; exact ⟨rfl, rfl⟩)
    (fun os started H enc _ => FloatsRow.lifted os started H enc)

theorem dyadicFloats_card : Rows.DyadicFloatsCardSaid :=
  Claim7.holds_tied_plain_at .later [] [.data] true (true, "79417347c266c5b4dfd03fc519a071e5728c7ebc9a57e594f54220cd03f01897") true
    dyadicFloats_row (fun _ h => by cases h) (by kernel_rfl) (fun _ h => by cases h) dyadicFloats_row_tie rfl ⟨rfl, rfl⟩ (by kernel_rfl) rfl
    (fun f fn hf hfn => by
      obtain rfl : f = 3 := Option.some.inj ((show Tryd.prog.funcNamed "outrigger/outriggerlaw06.DyadicFloats" = some 3 by kernel_rfl).symm.trans hf) |>.symm
      obtain rfl : fn = Tryd.f3 := (Option.some.inj (Tryd.func3.symm.trans hfn)).symm
      exact ⟨by kernel_rfl, fun j t ht => by
        rw [Tryd.params3] at ht
        have h3 : t = 22 := by
          match j with
          | 0 => simpa using ht.symm
          | 1 => simpa using ht.symm
          | 2 => simpa using ht.symm
          | 3 => simpa using ht.symm
          | j + 4 => simp at ht
        subst h3
        exact (show Tryd.prog.wantsStandIn 22 = false by kernel_rfl)⟩)
    (by kernel_rfl)
#print axioms dyadicFloats_card
end Go.Proofs.YtlgecdkidgjgiaaDoor
