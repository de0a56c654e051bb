/-
  No cell of these rows narrows 'for every input' (looked for: loops, veiled, ifaces, maps, wideKeys, modest, calm, conditions, laid).
  DERIVED. THE GIVEN ROWS OF THIS SEAT. 7 by the template 'for every input the law returns true; each argument reads behind the call as it read before'; 0 by the template 'total and deterministic' (their statements: YtoflicfghonhcaaTotals.lean).
  GIVEN WITH THE SEED: the statements are not yours to turn. If you find one false, say at which input.
  Laid BY PROGRAM, IN A SANDBOX (cutbox-rows.mjs): the forced cells as the released guide's own fill.sh prints them over the translation cfd1cdc1311981a4… (all of the seat's roots in one cut). By AI agents, Wed Nov 11 2026. No macro, syntax, notation, axiom, sorry.
-/
import Derived.Test.YtoflicfghonhcaaChecked
import GoSem.Claim
import GoSem.ClaimJoined
import GoSem.ClaimMapViews
import Derived.JoinedTies
import Derived.KernelRfl
namespace Go.Proofs.Ytoflicfghonhcaa
/- THE CELL 'sum', in the pinned program and in every row, IS THE sha256 OF THE DUMP (.gsa) THAT YtoflicfghonhcaaProg.lean LOADS. Nothing in Lean hashes anything: it is a label: what it is worth is what the hold of that sum in a sandbox is worth. -/
noncomputable def Try.pinned : Pinned := { name := "ytoflicfghonhcaa", sum := "cfd1cdc1311981a4980e5f2648f0005199f0c1f1dd2eba4a70a7baeed6b74200", checked := Try.checked }
namespace Rows
def none {H : Type} : Left H := { results := [], args := [] }

/-- 'incunablelaw15.LexiconFull': WHATEVER THE INPUT: true; the input reads as it did. -/
def lexiconFullSpec : ChangeSpec := { name := "lexiconFull", fn := fun _ => fun
  | [d] => { results := [.lit (.bool true)], args := [d] }
  | _ => none }
def lexiconFullRow : OpenClaim := { program := "ytoflicfghonhcaa", sum := "cfd1cdc1311981a4980e5f2648f0005199f0c1f1dd2eba4a70a7baeed6b74200", func := "incunable/incunablelaw15.LexiconFull", spec := "lexiconFull", unfollowed := true, recurses := true, apart := false }
def LexiconFullSaid : Prop := lexiconFullRow.holds Try.pinned (OpenSpec.ofChange lexiconFullSpec)

/-- ITS FALSE NEIGHBOUR: 'it returns false'. Refute it at one input. -/
def lexiconFullWrong : ChangeSpec := { name := "lexiconFull", fn := fun _ => fun
  | [d] => { results := [.lit (.bool false)], args := [d] }
  | _ => none }
def LexiconFullWrongFalsely : Prop := lexiconFullRow.holds Try.pinned (OpenSpec.ofChange lexiconFullWrong)

/-- 'incunablelaw15.LexiconAsks': WHATEVER THE INPUT: true; the input reads as it did. -/
def lexiconAsksSpec : ChangeSpec := { name := "lexiconAsks", fn := fun _ => fun
  | [d1, d2, d3] => { results := [.lit (.bool true)], args := [d1, d2, d3] }
  | _ => none }
def lexiconAsksRow : OpenClaim := { program := "ytoflicfghonhcaa", sum := "cfd1cdc1311981a4980e5f2648f0005199f0c1f1dd2eba4a70a7baeed6b74200", func := "incunable/incunablelaw15.LexiconAsks", spec := "lexiconAsks", unfollowed := true, recurses := true, apart := false }
def LexiconAsksSaid : Prop := lexiconAsksRow.holds Try.pinned (OpenSpec.ofChange lexiconAsksSpec)

/-- ITS FALSE NEIGHBOUR: 'it returns false'. Refute it at one input. -/
def lexiconAsksWrong : ChangeSpec := { name := "lexiconAsks", fn := fun _ => fun
  | [d1, d2, d3] => { results := [.lit (.bool false)], args := [d1, d2, d3] }
  | _ => none }
def LexiconAsksWrongFalsely : Prop := lexiconAsksRow.holds Try.pinned (OpenSpec.ofChange lexiconAsksWrong)

/-- 'incunablelaw15.LexiconLeast': WHATEVER THE INPUT: true; the input reads as it did. -/
def lexiconLeastSpec : ChangeSpec := { name := "lexiconLeast", fn := fun _ => fun
  | [d1, d2] => { results := [.lit (.bool true)], args := [d1, d2] }
  | _ => none }
def lexiconLeastRow : OpenClaim := { program := "ytoflicfghonhcaa", sum := "cfd1cdc1311981a4980e5f2648f0005199f0c1f1dd2eba4a70a7baeed6b74200", func := "incunable/incunablelaw15.LexiconLeast", spec := "lexiconLeast", unfollowed := true, recurses := true, apart := false }
def LexiconLeastSaid : Prop := lexiconLeastRow.holds Try.pinned (OpenSpec.ofChange lexiconLeastSpec)

/-- ITS FALSE NEIGHBOUR: 'it returns false'. Refute it at one input. -/
def lexiconLeastWrong : ChangeSpec := { name := "lexiconLeast", fn := fun _ => fun
  | [d1, d2] => { results := [.lit (.bool false)], args := [d1, d2] }
  | _ => none }
def LexiconLeastWrongFalsely : Prop := lexiconLeastRow.holds Try.pinned (OpenSpec.ofChange lexiconLeastWrong)

/-- 'incunablelaw15.LexiconAll': WHATEVER THE INPUT: true; the input reads as it did. -/
def lexiconAllSpec : ChangeSpec := { name := "lexiconAll", fn := fun _ => fun
  | [d] => { results := [.lit (.bool true)], args := [d] }
  | _ => none }
def lexiconAllRow : OpenClaim := { program := "ytoflicfghonhcaa", sum := "cfd1cdc1311981a4980e5f2648f0005199f0c1f1dd2eba4a70a7baeed6b74200", func := "incunable/incunablelaw15.LexiconAll", spec := "lexiconAll", unfollowed := true, recurses := true, apart := false }
def LexiconAllSaid : Prop := lexiconAllRow.holds Try.pinned (OpenSpec.ofChange lexiconAllSpec)

/-- ITS FALSE NEIGHBOUR: 'it returns false'. Refute it at one input. -/
def lexiconAllWrong : ChangeSpec := { name := "lexiconAll", fn := fun _ => fun
  | [d] => { results := [.lit (.bool false)], args := [d] }
  | _ => none }
def LexiconAllWrongFalsely : Prop := lexiconAllRow.holds Try.pinned (OpenSpec.ofChange lexiconAllWrong)

/-- 'incunablelaw15.LexiconApart': WHATEVER THE INPUT: true; the input reads as it did. -/
def lexiconApartSpec : ChangeSpec := { name := "lexiconApart", fn := fun _ => fun
  | [d1, d2] => { results := [.lit (.bool true)], args := [d1, d2] }
  | _ => none }
def lexiconApartRow : OpenClaim := { program := "ytoflicfghonhcaa", sum := "cfd1cdc1311981a4980e5f2648f0005199f0c1f1dd2eba4a70a7baeed6b74200", func := "incunable/incunablelaw15.LexiconApart", spec := "lexiconApart", inPlace := ["maps.clone"], unfollowed := true, recurses := true, apart := false }
def LexiconApartSaid : Prop := lexiconApartRow.holds Try.pinned (OpenSpec.ofChange lexiconApartSpec)

/-- ITS FALSE NEIGHBOUR: 'it returns false'. Refute it at one input. -/
def lexiconApartWrong : ChangeSpec := { name := "lexiconApart", fn := fun _ => fun
  | [d1, d2] => { results := [.lit (.bool false)], args := [d1, d2] }
  | _ => none }
def LexiconApartWrongFalsely : Prop := lexiconApartRow.holds Try.pinned (OpenSpec.ofChange lexiconApartWrong)

/-- 'incunablelaw15.LexiconBack': WHATEVER THE INPUT: true; the input reads as it did. -/
def lexiconBackSpec : ChangeSpec := { name := "lexiconBack", fn := fun _ => fun
  | [d1, d2] => { results := [.lit (.bool true)], args := [d1, d2] }
  | _ => none }
def lexiconBackRow : OpenClaim := { program := "ytoflicfghonhcaa", sum := "cfd1cdc1311981a4980e5f2648f0005199f0c1f1dd2eba4a70a7baeed6b74200", func := "incunable/incunablelaw15.LexiconBack", spec := "lexiconBack", unfollowed := true, recurses := true, apart := false }
def LexiconBackSaid : Prop := lexiconBackRow.holds Try.pinned (OpenSpec.ofChange lexiconBackSpec)

/-- ITS FALSE NEIGHBOUR: 'it returns false'. Refute it at one input. -/
def lexiconBackWrong : ChangeSpec := { name := "lexiconBack", fn := fun _ => fun
  | [d1, d2] => { results := [.lit (.bool false)], args := [d1, d2] }
  | _ => none }
def LexiconBackWrongFalsely : Prop := lexiconBackRow.holds Try.pinned (OpenSpec.ofChange lexiconBackWrong)

/-- 'incunablelaw15.LexiconLoads': WHATEVER THE INPUT: true; the input reads as it did. -/
def lexiconLoadsSpec : ChangeSpec := { name := "lexiconLoads", fn := fun _ => fun
  | [d1, d2] => { results := [.lit (.bool true)], args := [d1, d2] }
  | _ => none }
def lexiconLoadsRow : OpenClaim := { program := "ytoflicfghonhcaa", sum := "cfd1cdc1311981a4980e5f2648f0005199f0c1f1dd2eba4a70a7baeed6b74200", func := "incunable/incunablelaw15.LexiconLoads", spec := "lexiconLoads", unfollowed := true, recurses := true, apart := false }
def LexiconLoadsSaid : Prop := lexiconLoadsRow.holds Try.pinned (OpenSpec.ofChange lexiconLoadsSpec)

/-- ITS FALSE NEIGHBOUR: 'it returns false'. Refute it at one input. -/
def lexiconLoadsWrong : ChangeSpec := { name := "lexiconLoads", fn := fun _ => fun
  | [d1, d2] => { results := [.lit (.bool false)], args := [d1, d2] }
  | _ => none }
def LexiconLoadsWrongFalsely : Prop := lexiconLoadsRow.holds Try.pinned (OpenSpec.ofChange lexiconLoadsWrong)

/- THE SECOND FORM. 'bulk': how many values and letters a reading holds, each counted each time it is reached (what is shared counts as often as it is met; a slice's spare places count too). A statement '..UptoSaid' is the law's where the arguments, and the package variables that the reading takes, are together of bulk at most 1048576: NARROWER than '..Said'. Prove '..Said' where nothing that the law and all that it calls make is longer than what came in: it says more and counts as full. Else prove '..UptoSaid'. A law counts once. -/
mutual
def uptoBulk {H : Type} : DataW H → Nat
  | .lit (.string bytes) => bytes.length + 1
  | .lit _ => 1
  | .nil => 1
  | .ptr d => uptoBulk d + 1
  | .slice elems spare => uptoBulkAll elems + uptoBulkAll spare + 1
  | .agg parts => uptoBulkAll parts + 1
  | .iface _ d => uptoBulk d + 1
  | .map entries => uptoBulkEntries entries + 1
  | .held _ => 1
def uptoBulkAll {H : Type} : List (DataW H) → Nat
  | [] => 0
  | d :: r => uptoBulk d + uptoBulkAll r
def uptoBulkEntries {H : Type} : List (Lit × DataW H) → Nat
  | [] => 0
  | x :: r => uptoBulkEntry x + uptoBulkEntries r
def uptoBulkEntry {H : Type} : Lit × DataW H → Nat
  | (.string bytes, d) => bytes.length + uptoBulk d + 1
  | (_, d) => uptoBulk d + 1
 end
def uptoSmall : (H : Type) → List (DataW H) → Bool := fun _ ds => decide (uptoBulkAll ds ≤ 1048576)
def OpenSpec.upto (s : _root_.Go.ChangeSpec) : _root_.Go.OpenSpec := { _root_.Go.OpenSpec.ofChange s with cond := some uptoSmall }

/-- 'incunablelaw15.LexiconFull', WHERE WHAT IT READS IS OF BULK AT MOST 1048576: true; the input reads as it did. -/
def lexiconFullUptoRow : OpenClaim := { program := "ytoflicfghonhcaa", sum := "cfd1cdc1311981a4980e5f2648f0005199f0c1f1dd2eba4a70a7baeed6b74200", func := "incunable/incunablelaw15.LexiconFull", spec := "lexiconFull", unfollowed := true, recurses := true, apart := false, narrowed := true }
def LexiconFullUptoSaid : Prop := lexiconFullUptoRow.holds Try.pinned (OpenSpec.upto lexiconFullSpec)

/-- 'incunablelaw15.LexiconAsks', WHERE WHAT IT READS IS OF BULK AT MOST 1048576: true; the input reads as it did. -/
def lexiconAsksUptoRow : OpenClaim := { program := "ytoflicfghonhcaa", sum := "cfd1cdc1311981a4980e5f2648f0005199f0c1f1dd2eba4a70a7baeed6b74200", func := "incunable/incunablelaw15.LexiconAsks", spec := "lexiconAsks", unfollowed := true, recurses := true, apart := false, narrowed := true }
def LexiconAsksUptoSaid : Prop := lexiconAsksUptoRow.holds Try.pinned (OpenSpec.upto lexiconAsksSpec)

/-- 'incunablelaw15.LexiconLeast', WHERE WHAT IT READS IS OF BULK AT MOST 1048576: true; the input reads as it did. -/
def lexiconLeastUptoRow : OpenClaim := { program := "ytoflicfghonhcaa", sum := "cfd1cdc1311981a4980e5f2648f0005199f0c1f1dd2eba4a70a7baeed6b74200", func := "incunable/incunablelaw15.LexiconLeast", spec := "lexiconLeast", unfollowed := true, recurses := true, apart := false, narrowed := true }
def LexiconLeastUptoSaid : Prop := lexiconLeastUptoRow.holds Try.pinned (OpenSpec.upto lexiconLeastSpec)

/-- 'incunablelaw15.LexiconAll', WHERE WHAT IT READS IS OF BULK AT MOST 1048576: true; the input reads as it did. -/
def lexiconAllUptoRow : OpenClaim := { program := "ytoflicfghonhcaa", sum := "cfd1cdc1311981a4980e5f2648f0005199f0c1f1dd2eba4a70a7baeed6b74200", func := "incunable/incunablelaw15.LexiconAll", spec := "lexiconAll", unfollowed := true, recurses := true, apart := false, narrowed := true }
def LexiconAllUptoSaid : Prop := lexiconAllUptoRow.holds Try.pinned (OpenSpec.upto lexiconAllSpec)

/-- 'incunablelaw15.LexiconApart', WHERE WHAT IT READS IS OF BULK AT MOST 1048576: true; the input reads as it did. -/
def lexiconApartUptoRow : OpenClaim := { program := "ytoflicfghonhcaa", sum := "cfd1cdc1311981a4980e5f2648f0005199f0c1f1dd2eba4a70a7baeed6b74200", func := "incunable/incunablelaw15.LexiconApart", spec := "lexiconApart", inPlace := ["maps.clone"], unfollowed := true, recurses := true, apart := false, narrowed := true }
def LexiconApartUptoSaid : Prop := lexiconApartUptoRow.holds Try.pinned (OpenSpec.upto lexiconApartSpec)

/-- 'incunablelaw15.LexiconBack', WHERE WHAT IT READS IS OF BULK AT MOST 1048576: true; the input reads as it did. -/
def lexiconBackUptoRow : OpenClaim := { program := "ytoflicfghonhcaa", sum := "cfd1cdc1311981a4980e5f2648f0005199f0c1f1dd2eba4a70a7baeed6b74200", func := "incunable/incunablelaw15.LexiconBack", spec := "lexiconBack", unfollowed := true, recurses := true, apart := false, narrowed := true }
def LexiconBackUptoSaid : Prop := lexiconBackUptoRow.holds Try.pinned (OpenSpec.upto lexiconBackSpec)

/-- 'incunablelaw15.LexiconLoads', WHERE WHAT IT READS IS OF BULK AT MOST 1048576: true; the input reads as it did. -/
def lexiconLoadsUptoRow : OpenClaim := { program := "ytoflicfghonhcaa", sum := "cfd1cdc1311981a4980e5f2648f0005199f0c1f1dd2eba4a70a7baeed6b74200", func := "incunable/incunablelaw15.LexiconLoads", spec := "lexiconLoads", unfollowed := true, recurses := true, apart := false, narrowed := true }
def LexiconLoadsUptoSaid : Prop := lexiconLoadsUptoRow.holds Try.pinned (OpenSpec.upto lexiconLoadsSpec)

end Rows
end Go.Proofs.Ytoflicfghonhcaa
