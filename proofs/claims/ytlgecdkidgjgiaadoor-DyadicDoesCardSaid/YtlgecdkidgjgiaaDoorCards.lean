/-
  DERIVED. GIVEN WITH THE SEED: THE CARDS: each row of YtlgecdkidgjgiaaDoorRows.lean that lists a variable, with what it lists TIED to the program's text (the seventh form; the later family's looks); each row that meets fmt, with fmt's text TOLD by the authors' own Lean function (tested against real Go, not proved from fmt's source: count such statements apart). THE CARD IS WHAT COUNTS. Prove the row's statement (the work); the ties are given (YtlgecdkidgjgiaaDoorTie.lean); close each card by the builder's one call (the guide's Derived/Test/ToyasCard.lean, 'card_holds'). Laid BY PROGRAM, IN A SANDBOX (cutbox-door.mjs). By AI agents, Wed Nov 11 2026. No macro, syntax, notation, axiom, sorry.
-/
import Derived.Test.YtlgecdkidgjgiaaDoorRows
import GoSem.ClaimSeven
namespace Go.Proofs.YtlgecdkidgjgiaaDoor
namespace Rows

/-- THE TIED CARD OF 'outriggerlaw06.DyadicFloats'. -/
def dyadicFloatsCard : Claim7 := { stood := { row := dyadicFloatsRow, standIns := [], harness := (true, "79417347c266c5b4dfd03fc519a071e5728c7ebc9a57e594f54220cd03f01897"), looks := true }, kinds := [], alts := [], laidByText := true, laidKinds := [.data], laidTests := true, laidLooks := .later }
def DyadicFloatsCardSaid : Prop := Claim7.holds Tryd.pinned (.plain (OpenSpec.ofChange dyadicFloatsSpec)) dyadicFloatsCard

/-- THE TIED CARD OF 'outriggerlaw06.DyadicRound'. -/
def dyadicRoundCard : Claim7 := { stood := { row := dyadicRoundRow, standIns := [], harness := (true, "79417347c266c5b4dfd03fc519a071e5728c7ebc9a57e594f54220cd03f01897"), looks := true }, kinds := [], alts := [], laidByText := true, laidKinds := [.data], laidTests := true, laidLooks := .later }
def DyadicRoundCardSaid : Prop := Claim7.holds Tryd.pinned (.plain (OpenSpec.ofChange dyadicRoundSpec)) dyadicRoundCard

/-- THE TIED CARD OF 'outriggerlaw02.WholeProducts'. -/
def wholeProductsCard : Claim7 := { stood := { row := wholeProductsRow, standIns := [], harness := (true, "79417347c266c5b4dfd03fc519a071e5728c7ebc9a57e594f54220cd03f01897"), looks := true }, kinds := [], alts := [], laidByText := true, laidKinds := [.handle], laidTests := true, laidLooks := .later }
def WholeProductsCardSaid : Prop := Claim7.holds Tryd.pinned (.plain (OpenSpec.ofChange wholeProductsSpec)) wholeProductsCard

/-- THE TIED CARD OF 'outriggerlaw06.DyadicBits'. -/
def dyadicBitsCard : Claim7 := { stood := { row := dyadicBitsRow, standIns := [], harness := (true, "79417347c266c5b4dfd03fc519a071e5728c7ebc9a57e594f54220cd03f01897"), looks := true }, kinds := [], alts := [], laidByText := true, laidKinds := [.data, .handle], laidTests := true, laidLooks := .later }
def DyadicBitsCardSaid : Prop := Claim7.holds Tryd.pinned (.plain (OpenSpec.ofChange dyadicBitsSpec)) dyadicBitsCard

/-- THE TIED CARD OF 'outriggerlaw06.DyadicDoes'. -/
def dyadicDoesCard : Claim7 := { stood := { row := dyadicDoesRow, standIns := [], harness := (true, "79417347c266c5b4dfd03fc519a071e5728c7ebc9a57e594f54220cd03f01897"), looks := true }, kinds := [], alts := [], laidByText := true, laidKinds := [.data, .handle], laidTests := true, laidLooks := .later }
def DyadicDoesCardSaid : Prop := Claim7.holds Tryd.pinned (.plain (OpenSpec.ofChange dyadicDoesSpec)) dyadicDoesCard

/-- THE SECOND FORM's CARD OF 'outriggerlaw06.DyadicFloats'. -/
def dyadicFloatsUptoCard : Claim7 := { stood := { row := dyadicFloatsUptoRow, standIns := [], harness := (true, "79417347c266c5b4dfd03fc519a071e5728c7ebc9a57e594f54220cd03f01897"), looks := true }, kinds := [], alts := [], laidByText := true, laidKinds := [.data], laidTests := true, laidLooks := .later }
def DyadicFloatsUptoCardSaid : Prop := Claim7.holds Tryd.pinned (.plain (OpenSpec.upto dyadicFloatsSpec)) dyadicFloatsUptoCard

/-- THE SECOND FORM's CARD OF 'outriggerlaw06.DyadicRound'. -/
def dyadicRoundUptoCard : Claim7 := { stood := { row := dyadicRoundUptoRow, standIns := [], harness := (true, "79417347c266c5b4dfd03fc519a071e5728c7ebc9a57e594f54220cd03f01897"), looks := true }, kinds := [], alts := [], laidByText := true, laidKinds := [.data], laidTests := true, laidLooks := .later }
def DyadicRoundUptoCardSaid : Prop := Claim7.holds Tryd.pinned (.plain (OpenSpec.upto dyadicRoundSpec)) dyadicRoundUptoCard

/-- THE SECOND FORM's CARD OF 'outriggerlaw02.WholeProducts'. -/
def wholeProductsUptoCard : Claim7 := { stood := { row := wholeProductsUptoRow, standIns := [], harness := (true, "79417347c266c5b4dfd03fc519a071e5728c7ebc9a57e594f54220cd03f01897"), looks := true }, kinds := [], alts := [], laidByText := true, laidKinds := [.handle], laidTests := true, laidLooks := .later }
def WholeProductsUptoCardSaid : Prop := Claim7.holds Tryd.pinned (.plain (OpenSpec.upto wholeProductsSpec)) wholeProductsUptoCard

/-- THE SECOND FORM's CARD OF 'outriggerlaw06.DyadicBits'. -/
def dyadicBitsUptoCard : Claim7 := { stood := { row := dyadicBitsUptoRow, standIns := [], harness := (true, "79417347c266c5b4dfd03fc519a071e5728c7ebc9a57e594f54220cd03f01897"), looks := true }, kinds := [], alts := [], laidByText := true, laidKinds := [.data, .handle], laidTests := true, laidLooks := .later }
def DyadicBitsUptoCardSaid : Prop := Claim7.holds Tryd.pinned (.plain (OpenSpec.upto dyadicBitsSpec)) dyadicBitsUptoCard

/-- THE SECOND FORM's CARD OF 'outriggerlaw06.DyadicDoes'. -/
def dyadicDoesUptoCard : Claim7 := { stood := { row := dyadicDoesUptoRow, standIns := [], harness := (true, "79417347c266c5b4dfd03fc519a071e5728c7ebc9a57e594f54220cd03f01897"), looks := true }, kinds := [], alts := [], laidByText := true, laidKinds := [.data, .handle], laidTests := true, laidLooks := .later }
def DyadicDoesUptoCardSaid : Prop := Claim7.holds Tryd.pinned (.plain (OpenSpec.upto dyadicDoesSpec)) dyadicDoesUptoCard
end Rows
end Go.Proofs.YtlgecdkidgjgiaaDoor
