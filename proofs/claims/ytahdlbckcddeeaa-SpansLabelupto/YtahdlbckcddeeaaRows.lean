/-
  No cell of these rows narrows 'for every input' (looked for: loops, veiled, ifaces, maps, wideKeys, modest, calm, conditions, laid).
  DERIVED. THE GIVEN ROWS OF THIS SEAT. 7 by the template 'for every input the law returns true; each argument reads behind the call as it read before'; 0 by the template 'total and deterministic' (their statements: YtahdlbckcddeeaaTotals.lean).
  GIVEN WITH THE SEED: the statements are not yours to turn. If you find one false, say at which input.
  Laid BY PROGRAM, IN A SANDBOX (cutbox-rows.mjs): the forced cells as the released guide's own fill.sh prints them over the translation 9489f04bf17a5e7f… (all of the seat's roots in one cut). By AI agents, Wed Nov 11 2026. No macro, syntax, notation, axiom, sorry.
-/
import Derived.Test.YtahdlbckcddeeaaChecked
import GoSem.Claim
import GoSem.ClaimJoined
import GoSem.ClaimMapViews
import Derived.JoinedTies
import Derived.KernelRfl
namespace Go.Proofs.Ytahdlbckcddeeaa
/- THE CELL 'sum', in the pinned program and in every row, IS THE sha256 OF THE DUMP (.gsa) THAT YtahdlbckcddeeaaProg.lean LOADS. Nothing in Lean hashes anything: it is a label: what it is worth is what the hold of that sum in a sandbox is worth. -/
noncomputable def Try.pinned : Pinned := { name := "ytahdlbckcddeeaa", sum := "9489f04bf17a5e7fdb140170e127deb47d6e1eb0c61193f4a85293bc66b8aabc", checked := Try.checked }
namespace Rows
def none {H : Type} : Left H := { results := [], args := [] }

/-- 'incunablelaw14.SpansChecks': WHATEVER THE INPUT: true; the input reads as it did. -/
def spansChecksSpec : ChangeSpec := { name := "spansChecks", fn := fun _ => fun
  | [d1, d2] => { results := [.lit (.bool true)], args := [d1, d2] }
  | _ => none }
def spansChecksRow : OpenClaim := { program := "ytahdlbckcddeeaa", sum := "9489f04bf17a5e7fdb140170e127deb47d6e1eb0c61193f4a85293bc66b8aabc", func := "incunable/incunablelaw14.SpansChecks", spec := "spansChecks", unfollowed := true, recurses := true, apart := false }
def SpansChecksSaid : Prop := spansChecksRow.holds Try.pinned (OpenSpec.ofChange spansChecksSpec)

/-- ITS FALSE NEIGHBOUR: 'it returns false'. Refute it at one input. -/
def spansChecksWrong : ChangeSpec := { name := "spansChecks", fn := fun _ => fun
  | [d1, d2] => { results := [.lit (.bool false)], args := [d1, d2] }
  | _ => none }
def SpansChecksWrongFalsely : Prop := spansChecksRow.holds Try.pinned (OpenSpec.ofChange spansChecksWrong)

/-- 'incunablelaw14.SpansBack': WHATEVER THE INPUT: true; the input reads as it did. -/
def spansBackSpec : ChangeSpec := { name := "spansBack", fn := fun _ => fun
  | [d] => { results := [.lit (.bool true)], args := [d] }
  | _ => none }
def spansBackRow : OpenClaim := { program := "ytahdlbckcddeeaa", sum := "9489f04bf17a5e7fdb140170e127deb47d6e1eb0c61193f4a85293bc66b8aabc", func := "incunable/incunablelaw14.SpansBack", spec := "spansBack", unfollowed := true, recurses := true, apart := false }
def SpansBackSaid : Prop := spansBackRow.holds Try.pinned (OpenSpec.ofChange spansBackSpec)

/-- ITS FALSE NEIGHBOUR: 'it returns false'. Refute it at one input. -/
def spansBackWrong : ChangeSpec := { name := "spansBack", fn := fun _ => fun
  | [d] => { results := [.lit (.bool false)], args := [d] }
  | _ => none }
def SpansBackWrongFalsely : Prop := spansBackRow.holds Try.pinned (OpenSpec.ofChange spansBackWrong)

/-- 'incunablelaw14.SpansLabel': WHATEVER THE INPUT: true; the input reads as it did. -/
def spansLabelSpec : ChangeSpec := { name := "spansLabel", fn := fun _ => fun
  | [d] => { results := [.lit (.bool true)], args := [d] }
  | _ => none }
def spansLabelRow : OpenClaim := { program := "ytahdlbckcddeeaa", sum := "9489f04bf17a5e7fdb140170e127deb47d6e1eb0c61193f4a85293bc66b8aabc", func := "incunable/incunablelaw14.SpansLabel", spec := "spansLabel", unfollowed := true, recurses := true, apart := false }
def SpansLabelSaid : Prop := spansLabelRow.holds Try.pinned (OpenSpec.ofChange spansLabelSpec)

/-- ITS FALSE NEIGHBOUR: 'it returns false'. Refute it at one input. -/
def spansLabelWrong : ChangeSpec := { name := "spansLabel", fn := fun _ => fun
  | [d] => { results := [.lit (.bool false)], args := [d] }
  | _ => none }
def SpansLabelWrongFalsely : Prop := spansLabelRow.holds Try.pinned (OpenSpec.ofChange spansLabelWrong)

/-- 'incunablelaw14.SpansBetween': WHATEVER THE INPUT: true; the input reads as it did. -/
def spansBetweenSpec : ChangeSpec := { name := "spansBetween", fn := fun _ => fun
  | [d1, d2, d3] => { results := [.lit (.bool true)], args := [d1, d2, d3] }
  | _ => none }
def spansBetweenRow : OpenClaim := { program := "ytahdlbckcddeeaa", sum := "9489f04bf17a5e7fdb140170e127deb47d6e1eb0c61193f4a85293bc66b8aabc", func := "incunable/incunablelaw14.SpansBetween", spec := "spansBetween", unfollowed := true, recurses := true, apart := false }
def SpansBetweenSaid : Prop := spansBetweenRow.holds Try.pinned (OpenSpec.ofChange spansBetweenSpec)

/-- ITS FALSE NEIGHBOUR: 'it returns false'. Refute it at one input. -/
def spansBetweenWrong : ChangeSpec := { name := "spansBetween", fn := fun _ => fun
  | [d1, d2, d3] => { results := [.lit (.bool false)], args := [d1, d2, d3] }
  | _ => none }
def SpansBetweenWrongFalsely : Prop := spansBetweenRow.holds Try.pinned (OpenSpec.ofChange spansBetweenWrong)

/-- 'incunablelaw14.SpansOrders': WHATEVER THE INPUT: true; the input reads as it did. -/
def spansOrdersSpec : ChangeSpec := { name := "spansOrders", fn := fun _ => fun
  | [d1, d2, d3] => { results := [.lit (.bool true)], args := [d1, d2, d3] }
  | _ => none }
def spansOrdersRow : OpenClaim := { program := "ytahdlbckcddeeaa", sum := "9489f04bf17a5e7fdb140170e127deb47d6e1eb0c61193f4a85293bc66b8aabc", func := "incunable/incunablelaw14.SpansOrders", spec := "spansOrders", unfollowed := true, recurses := true, apart := false }
def SpansOrdersSaid : Prop := spansOrdersRow.holds Try.pinned (OpenSpec.ofChange spansOrdersSpec)

/-- ITS FALSE NEIGHBOUR: 'it returns false'. Refute it at one input. -/
def spansOrdersWrong : ChangeSpec := { name := "spansOrders", fn := fun _ => fun
  | [d1, d2, d3] => { results := [.lit (.bool false)], args := [d1, d2, d3] }
  | _ => none }
def SpansOrdersWrongFalsely : Prop := spansOrdersRow.holds Try.pinned (OpenSpec.ofChange spansOrdersWrong)

/-- 'incunablelaw14.SpansLevels': WHATEVER THE INPUT: true; the input reads as it did. -/
def spansLevelsSpec : ChangeSpec := { name := "spansLevels", fn := fun _ => fun
  | [d] => { results := [.lit (.bool true)], args := [d] }
  | _ => none }
def spansLevelsRow : OpenClaim := { program := "ytahdlbckcddeeaa", sum := "9489f04bf17a5e7fdb140170e127deb47d6e1eb0c61193f4a85293bc66b8aabc", func := "incunable/incunablelaw14.SpansLevels", spec := "spansLevels", unfollowed := true, recurses := true, apart := false }
def SpansLevelsSaid : Prop := spansLevelsRow.holds Try.pinned (OpenSpec.ofChange spansLevelsSpec)

/-- ITS FALSE NEIGHBOUR: 'it returns false'. Refute it at one input. -/
def spansLevelsWrong : ChangeSpec := { name := "spansLevels", fn := fun _ => fun
  | [d] => { results := [.lit (.bool false)], args := [d] }
  | _ => none }
def SpansLevelsWrongFalsely : Prop := spansLevelsRow.holds Try.pinned (OpenSpec.ofChange spansLevelsWrong)

/-- 'incunablelaw14.SpansShifted': WHATEVER THE INPUT: true; the input reads as it did. -/
def spansShiftedSpec : ChangeSpec := { name := "spansShifted", fn := fun _ => fun
  | [d1, d2] => { results := [.lit (.bool true)], args := [d1, d2] }
  | _ => none }
def spansShiftedRow : OpenClaim := { program := "ytahdlbckcddeeaa", sum := "9489f04bf17a5e7fdb140170e127deb47d6e1eb0c61193f4a85293bc66b8aabc", func := "incunable/incunablelaw14.SpansShifted", spec := "spansShifted", unfollowed := true, recurses := true, apart := false }
def SpansShiftedSaid : Prop := spansShiftedRow.holds Try.pinned (OpenSpec.ofChange spansShiftedSpec)

/-- ITS FALSE NEIGHBOUR: 'it returns false'. Refute it at one input. -/
def spansShiftedWrong : ChangeSpec := { name := "spansShifted", fn := fun _ => fun
  | [d1, d2] => { results := [.lit (.bool false)], args := [d1, d2] }
  | _ => none }
def SpansShiftedWrongFalsely : Prop := spansShiftedRow.holds Try.pinned (OpenSpec.ofChange spansShiftedWrong)

/- THE SECOND FORM. 'bulk': how many values and letters a reading holds, each counted each time it is reached (what is shared counts as often as it is met; a slice's spare places count too). A statement '..UptoSaid' is the law's where the arguments, and the package variables that the reading takes, are together of bulk at most 1048576: NARROWER than '..Said'. Prove '..Said' where nothing that the law and all that it calls make is longer than what came in: it says more and counts as full. Else prove '..UptoSaid'. A law counts once. -/
mutual
def uptoBulk {H : Type} : DataW H → Nat
  | .lit (.string bytes) => bytes.length + 1
  | .lit _ => 1
  | .nil => 1
  | .ptr d => uptoBulk d + 1
  | .slice elems spare => uptoBulkAll elems + uptoBulkAll spare + 1
  | .agg parts => uptoBulkAll parts + 1
  | .iface _ d => uptoBulk d + 1
  | .map entries => uptoBulkEntries entries + 1
  | .held _ => 1
def uptoBulkAll {H : Type} : List (DataW H) → Nat
  | [] => 0
  | d :: r => uptoBulk d + uptoBulkAll r
def uptoBulkEntries {H : Type} : List (Lit × DataW H) → Nat
  | [] => 0
  | x :: r => uptoBulkEntry x + uptoBulkEntries r
def uptoBulkEntry {H : Type} : Lit × DataW H → Nat
  | (.string bytes, d) => bytes.length + uptoBulk d + 1
  | (_, d) => uptoBulk d + 1
 end
def uptoSmall : (H : Type) → List (DataW H) → Bool := fun _ ds => decide (uptoBulkAll ds ≤ 1048576)
def OpenSpec.upto (s : _root_.Go.ChangeSpec) : _root_.Go.OpenSpec := { _root_.Go.OpenSpec.ofChange s with cond := some uptoSmall }

/-- 'incunablelaw14.SpansChecks', WHERE WHAT IT READS IS OF BULK AT MOST 1048576: true; the input reads as it did. -/
def spansChecksUptoRow : OpenClaim := { program := "ytahdlbckcddeeaa", sum := "9489f04bf17a5e7fdb140170e127deb47d6e1eb0c61193f4a85293bc66b8aabc", func := "incunable/incunablelaw14.SpansChecks", spec := "spansChecks", unfollowed := true, recurses := true, apart := false, narrowed := true }
def SpansChecksUptoSaid : Prop := spansChecksUptoRow.holds Try.pinned (OpenSpec.upto spansChecksSpec)

/-- 'incunablelaw14.SpansBack', WHERE WHAT IT READS IS OF BULK AT MOST 1048576: true; the input reads as it did. -/
def spansBackUptoRow : OpenClaim := { program := "ytahdlbckcddeeaa", sum := "9489f04bf17a5e7fdb140170e127deb47d6e1eb0c61193f4a85293bc66b8aabc", func := "incunable/incunablelaw14.SpansBack", spec := "spansBack", unfollowed := true, recurses := true, apart := false, narrowed := true }
def SpansBackUptoSaid : Prop := spansBackUptoRow.holds Try.pinned (OpenSpec.upto spansBackSpec)

/-- 'incunablelaw14.SpansLabel', WHERE WHAT IT READS IS OF BULK AT MOST 1048576: true; the input reads as it did. -/
def spansLabelUptoRow : OpenClaim := { program := "ytahdlbckcddeeaa", sum := "9489f04bf17a5e7fdb140170e127deb47d6e1eb0c61193f4a85293bc66b8aabc", func := "incunable/incunablelaw14.SpansLabel", spec := "spansLabel", unfollowed := true, recurses := true, apart := false, narrowed := true }
def SpansLabelUptoSaid : Prop := spansLabelUptoRow.holds Try.pinned (OpenSpec.upto spansLabelSpec)

/-- 'incunablelaw14.SpansBetween', WHERE WHAT IT READS IS OF BULK AT MOST 1048576: true; the input reads as it did. -/
def spansBetweenUptoRow : OpenClaim := { program := "ytahdlbckcddeeaa", sum := "9489f04bf17a5e7fdb140170e127deb47d6e1eb0c61193f4a85293bc66b8aabc", func := "incunable/incunablelaw14.SpansBetween", spec := "spansBetween", unfollowed := true, recurses := true, apart := false, narrowed := true }
def SpansBetweenUptoSaid : Prop := spansBetweenUptoRow.holds Try.pinned (OpenSpec.upto spansBetweenSpec)

/-- 'incunablelaw14.SpansOrders', WHERE WHAT IT READS IS OF BULK AT MOST 1048576: true; the input reads as it did. -/
def spansOrdersUptoRow : OpenClaim := { program := "ytahdlbckcddeeaa", sum := "9489f04bf17a5e7fdb140170e127deb47d6e1eb0c61193f4a85293bc66b8aabc", func := "incunable/incunablelaw14.SpansOrders", spec := "spansOrders", unfollowed := true, recurses := true, apart := false, narrowed := true }
def SpansOrdersUptoSaid : Prop := spansOrdersUptoRow.holds Try.pinned (OpenSpec.upto spansOrdersSpec)

/-- 'incunablelaw14.SpansLevels', WHERE WHAT IT READS IS OF BULK AT MOST 1048576: true; the input reads as it did. -/
def spansLevelsUptoRow : OpenClaim := { program := "ytahdlbckcddeeaa", sum := "9489f04bf17a5e7fdb140170e127deb47d6e1eb0c61193f4a85293bc66b8aabc", func := "incunable/incunablelaw14.SpansLevels", spec := "spansLevels", unfollowed := true, recurses := true, apart := false, narrowed := true }
def SpansLevelsUptoSaid : Prop := spansLevelsUptoRow.holds Try.pinned (OpenSpec.upto spansLevelsSpec)

/-- 'incunablelaw14.SpansShifted', WHERE WHAT IT READS IS OF BULK AT MOST 1048576: true; the input reads as it did. -/
def spansShiftedUptoRow : OpenClaim := { program := "ytahdlbckcddeeaa", sum := "9489f04bf17a5e7fdb140170e127deb47d6e1eb0c61193f4a85293bc66b8aabc", func := "incunable/incunablelaw14.SpansShifted", spec := "spansShifted", unfollowed := true, recurses := true, apart := false, narrowed := true }
def SpansShiftedUptoSaid : Prop := spansShiftedUptoRow.holds Try.pinned (OpenSpec.upto spansShiftedSpec)

end Rows
end Go.Proofs.Ytahdlbckcddeeaa
