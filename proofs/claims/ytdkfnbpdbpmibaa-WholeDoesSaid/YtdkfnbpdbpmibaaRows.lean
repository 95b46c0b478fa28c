/-
  No cell of these rows narrows 'for every input' (looked for: loops, veiled, ifaces, maps, wideKeys, modest, calm, conditions, laid).
  DERIVED. THE GIVEN ROWS OF THIS SEAT. 3 by the template 'for every input the law returns true; each argument reads behind the call as it read before'; 0 by the template 'total and deterministic' (their statements: YtdkfnbpdbpmibaaTotals.lean).
  GIVEN WITH THE SEED: the statements are not yours to turn. If you find one false, say at which input.
  Laid BY PROGRAM, IN A SANDBOX (cutbox-rows.mjs): the forced cells as the released guide's own fill.sh prints them over the translation 3eca3f7ac05c6746… (all of the seat's roots in one cut). By AI agents, Wed Nov 11 2026. No macro, syntax, notation, axiom, sorry.
-/
import Derived.Test.YtdkfnbpdbpmibaaChecked
import GoSem.Claim
import GoSem.ClaimJoined
import GoSem.ClaimMapViews
import Derived.JoinedTies
import Derived.KernelRfl
namespace Go.Proofs.Ytdkfnbpdbpmibaa
/- THE CELL 'sum', in the pinned program and in every row, IS THE sha256 OF THE DUMP (.gsa) THAT YtdkfnbpdbpmibaaProg.lean LOADS. Nothing in Lean hashes anything: it is a label: what it is worth is what the hold of that sum in a sandbox is worth. -/
noncomputable def Try.pinned : Pinned := { name := "ytdkfnbpdbpmibaa", sum := "3eca3f7ac05c6746ef969aaafbb2f291e8ff09061b55393011b6683e19dbb7a9", checked := Try.checked }
namespace Rows
def none {H : Type} : Left H := { results := [], args := [] }

/-- 'outriggerlaw02.WholeDoes': WHATEVER THE INPUT: true; the input reads as it did. -/
def wholeDoesSpec : ChangeSpec := { name := "wholeDoes", fn := fun _ => fun
  | [d1, d2, d3] => { results := [.lit (.bool true)], args := [d1, d2, d3] }
  | _ => none }
def wholeDoesRow : OpenClaim := { program := "ytdkfnbpdbpmibaa", sum := "3eca3f7ac05c6746ef969aaafbb2f291e8ff09061b55393011b6683e19dbb7a9", func := "outrigger/outriggerlaw02.WholeDoes", spec := "wholeDoes", inPlace := ["math/bits.Add64", "math/bits.Sub64"], apart := false }
def WholeDoesSaid : Prop := wholeDoesRow.holds Try.pinned (OpenSpec.ofChange wholeDoesSpec)

/-- ITS FALSE NEIGHBOUR: 'it returns false'. Refute it at one input. -/
def wholeDoesWrong : ChangeSpec := { name := "wholeDoes", fn := fun _ => fun
  | [d1, d2, d3] => { results := [.lit (.bool false)], args := [d1, d2, d3] }
  | _ => none }
def WholeDoesWrongFalsely : Prop := wholeDoesRow.holds Try.pinned (OpenSpec.ofChange wholeDoesWrong)

/-- 'outriggerlaw02.WholeRing': WHATEVER THE INPUT: true; the input reads as it did. -/
def wholeRingSpec : ChangeSpec := { name := "wholeRing", fn := fun _ => fun
  | [d1, d2, d3] => { results := [.lit (.bool true)], args := [d1, d2, d3] }
  | _ => none }
def wholeRingRow : OpenClaim := { program := "ytdkfnbpdbpmibaa", sum := "3eca3f7ac05c6746ef969aaafbb2f291e8ff09061b55393011b6683e19dbb7a9", func := "outrigger/outriggerlaw02.WholeRing", spec := "wholeRing", inPlace := ["math/bits.Add64", "math/bits.Sub64"], apart := false }
def WholeRingSaid : Prop := wholeRingRow.holds Try.pinned (OpenSpec.ofChange wholeRingSpec)

/-- ITS FALSE NEIGHBOUR: 'it returns false'. Refute it at one input. -/
def wholeRingWrong : ChangeSpec := { name := "wholeRing", fn := fun _ => fun
  | [d1, d2, d3] => { results := [.lit (.bool false)], args := [d1, d2, d3] }
  | _ => none }
def WholeRingWrongFalsely : Prop := wholeRingRow.holds Try.pinned (OpenSpec.ofChange wholeRingWrong)

/-- 'outriggerlaw02.WholeSigns': WHATEVER THE INPUT: true; the input reads as it did. -/
def wholeSignsSpec : ChangeSpec := { name := "wholeSigns", fn := fun _ => fun
  | [d1, d2] => { results := [.lit (.bool true)], args := [d1, d2] }
  | _ => none }
def wholeSignsRow : OpenClaim := { program := "ytdkfnbpdbpmibaa", sum := "3eca3f7ac05c6746ef969aaafbb2f291e8ff09061b55393011b6683e19dbb7a9", func := "outrigger/outriggerlaw02.WholeSigns", spec := "wholeSigns", inPlace := ["math/bits.Add64", "math/bits.Sub64"], apart := false }
def WholeSignsSaid : Prop := wholeSignsRow.holds Try.pinned (OpenSpec.ofChange wholeSignsSpec)

/-- ITS FALSE NEIGHBOUR: 'it returns false'. Refute it at one input. -/
def wholeSignsWrong : ChangeSpec := { name := "wholeSigns", fn := fun _ => fun
  | [d1, d2] => { results := [.lit (.bool false)], args := [d1, d2] }
  | _ => none }
def WholeSignsWrongFalsely : Prop := wholeSignsRow.holds Try.pinned (OpenSpec.ofChange wholeSignsWrong)

/- THE SECOND FORM. 'bulk': how many values and letters a reading holds, each counted each time it is reached (what is shared counts as often as it is met; a slice's spare places count too). A statement '..UptoSaid' is the law's where the arguments, and the package variables that the reading takes, are together of bulk at most 1048576: NARROWER than '..Said'. Prove '..Said' where nothing that the law and all that it calls make is longer than what came in: it says more and counts as full. Else prove '..UptoSaid'. A law counts once. -/
mutual
def uptoBulk {H : Type} : DataW H → Nat
  | .lit (.string bytes) => bytes.length + 1
  | .lit _ => 1
  | .nil => 1
  | .ptr d => uptoBulk d + 1
  | .slice elems spare => uptoBulkAll elems + uptoBulkAll spare + 1
  | .agg parts => uptoBulkAll parts + 1
  | .iface _ d => uptoBulk d + 1
  | .map entries => uptoBulkEntries entries + 1
  | .held _ => 1
def uptoBulkAll {H : Type} : List (DataW H) → Nat
  | [] => 0
  | d :: r => uptoBulk d + uptoBulkAll r
def uptoBulkEntries {H : Type} : List (Lit × DataW H) → Nat
  | [] => 0
  | x :: r => uptoBulkEntry x + uptoBulkEntries r
def uptoBulkEntry {H : Type} : Lit × DataW H → Nat
  | (.string bytes, d) => bytes.length + uptoBulk d + 1
  | (_, d) => uptoBulk d + 1
 end
def uptoSmall : (H : Type) → List (DataW H) → Bool := fun _ ds => decide (uptoBulkAll ds ≤ 1048576)
def OpenSpec.upto (s : _root_.Go.ChangeSpec) : _root_.Go.OpenSpec := { _root_.Go.OpenSpec.ofChange s with cond := some uptoSmall }

/-- 'outriggerlaw02.WholeDoes', WHERE WHAT IT READS IS OF BULK AT MOST 1048576: true; the input reads as it did. -/
def wholeDoesUptoRow : OpenClaim := { program := "ytdkfnbpdbpmibaa", sum := "3eca3f7ac05c6746ef969aaafbb2f291e8ff09061b55393011b6683e19dbb7a9", func := "outrigger/outriggerlaw02.WholeDoes", spec := "wholeDoes", inPlace := ["math/bits.Add64", "math/bits.Sub64"], apart := false, narrowed := true }
def WholeDoesUptoSaid : Prop := wholeDoesUptoRow.holds Try.pinned (OpenSpec.upto wholeDoesSpec)

/-- 'outriggerlaw02.WholeRing', WHERE WHAT IT READS IS OF BULK AT MOST 1048576: true; the input reads as it did. -/
def wholeRingUptoRow : OpenClaim := { program := "ytdkfnbpdbpmibaa", sum := "3eca3f7ac05c6746ef969aaafbb2f291e8ff09061b55393011b6683e19dbb7a9", func := "outrigger/outriggerlaw02.WholeRing", spec := "wholeRing", inPlace := ["math/bits.Add64", "math/bits.Sub64"], apart := false, narrowed := true }
def WholeRingUptoSaid : Prop := wholeRingUptoRow.holds Try.pinned (OpenSpec.upto wholeRingSpec)

/-- 'outriggerlaw02.WholeSigns', WHERE WHAT IT READS IS OF BULK AT MOST 1048576: true; the input reads as it did. -/
def wholeSignsUptoRow : OpenClaim := { program := "ytdkfnbpdbpmibaa", sum := "3eca3f7ac05c6746ef969aaafbb2f291e8ff09061b55393011b6683e19dbb7a9", func := "outrigger/outriggerlaw02.WholeSigns", spec := "wholeSigns", inPlace := ["math/bits.Add64", "math/bits.Sub64"], apart := false, narrowed := true }
def WholeSignsUptoSaid : Prop := wholeSignsUptoRow.holds Try.pinned (OpenSpec.upto wholeSignsSpec)

end Rows
end Go.Proofs.Ytdkfnbpdbpmibaa
