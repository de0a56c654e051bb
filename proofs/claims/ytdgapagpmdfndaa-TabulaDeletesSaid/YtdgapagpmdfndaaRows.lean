/-
  No cell of these rows narrows 'for every input' (looked for: loops, veiled, ifaces, maps, wideKeys, modest, calm, conditions, laid).
  DERIVED. THE GIVEN ROWS OF THIS SEAT. 7 by the template 'for every input the law returns true; each argument reads behind the call as it read before'; 0 by the template 'total and deterministic' (their statements: YtdgapagpmdfndaaTotals.lean).
  GIVEN WITH THE SEED: the statements are not yours to turn. If you find one false, say at which input.
  Laid BY PROGRAM, IN A SANDBOX (cutbox-rows.mjs): the forced cells as the released guide's own fill.sh prints them over the translation 74bb615aa22c9c7d… (all of the seat's roots in one cut). By AI agents, Wed Nov 11 2026. No macro, syntax, notation, axiom, sorry.
-/
import Derived.Test.YtdgapagpmdfndaaChecked
import GoSem.Claim
import GoSem.ClaimJoined
import GoSem.ClaimMapViews
import Derived.JoinedTies
import Derived.KernelRfl
namespace Go.Proofs.Ytdgapagpmdfndaa
/- THE CELL 'sum', in the pinned program and in every row, IS THE sha256 OF THE DUMP (.gsa) THAT YtdgapagpmdfndaaProg.lean LOADS. Nothing in Lean hashes anything: it is a label: what it is worth is what the hold of that sum in a sandbox is worth. -/
noncomputable def Try.pinned : Pinned := { name := "ytdgapagpmdfndaa", sum := "74bb615aa22c9c7dc60501f82cc666f2d076f02f7bcefc3f3ab09561dfde8421", checked := Try.checked }
namespace Rows
def none {H : Type} : Left H := { results := [], args := [] }

/-- 'incunablelaw13.TabulaAll': WHATEVER THE INPUT: true; the input reads as it did. -/
def tabulaAllSpec : ChangeSpec := { name := "tabulaAll", fn := fun _ => fun
  | [d] => { results := [.lit (.bool true)], args := [d] }
  | _ => none }
def tabulaAllRow : OpenClaim := { program := "ytdgapagpmdfndaa", sum := "74bb615aa22c9c7dc60501f82cc666f2d076f02f7bcefc3f3ab09561dfde8421", func := "incunable/incunablelaw13.TabulaAll", spec := "tabulaAll", unfollowed := true, recurses := true, apart := false }
def TabulaAllSaid : Prop := tabulaAllRow.holds Try.pinned (OpenSpec.ofChange tabulaAllSpec)

/-- ITS FALSE NEIGHBOUR: 'it returns false'. Refute it at one input. -/
def tabulaAllWrong : ChangeSpec := { name := "tabulaAll", fn := fun _ => fun
  | [d] => { results := [.lit (.bool false)], args := [d] }
  | _ => none }
def TabulaAllWrongFalsely : Prop := tabulaAllRow.holds Try.pinned (OpenSpec.ofChange tabulaAllWrong)

/-- 'incunablelaw13.TabulaOrder': WHATEVER THE INPUT: true; the input reads as it did. -/
def tabulaOrderSpec : ChangeSpec := { name := "tabulaOrder", fn := fun _ => fun
  | [d1, d2] => { results := [.lit (.bool true)], args := [d1, d2] }
  | _ => none }
def tabulaOrderRow : OpenClaim := { program := "ytdgapagpmdfndaa", sum := "74bb615aa22c9c7dc60501f82cc666f2d076f02f7bcefc3f3ab09561dfde8421", func := "incunable/incunablelaw13.TabulaOrder", spec := "tabulaOrder", unfollowed := true, recurses := true, apart := false }
def TabulaOrderSaid : Prop := tabulaOrderRow.holds Try.pinned (OpenSpec.ofChange tabulaOrderSpec)

/-- ITS FALSE NEIGHBOUR: 'it returns false'. Refute it at one input. -/
def tabulaOrderWrong : ChangeSpec := { name := "tabulaOrder", fn := fun _ => fun
  | [d1, d2] => { results := [.lit (.bool false)], args := [d1, d2] }
  | _ => none }
def TabulaOrderWrongFalsely : Prop := tabulaOrderRow.holds Try.pinned (OpenSpec.ofChange tabulaOrderWrong)

/-- 'incunablelaw13.TabulaPlaces': WHATEVER THE INPUT: true; the input reads as it did. -/
def tabulaPlacesSpec : ChangeSpec := { name := "tabulaPlaces", fn := fun _ => fun
  | [d1, d2] => { results := [.lit (.bool true)], args := [d1, d2] }
  | _ => none }
def tabulaPlacesRow : OpenClaim := { program := "ytdgapagpmdfndaa", sum := "74bb615aa22c9c7dc60501f82cc666f2d076f02f7bcefc3f3ab09561dfde8421", func := "incunable/incunablelaw13.TabulaPlaces", spec := "tabulaPlaces", unfollowed := true, recurses := true, apart := false }
def TabulaPlacesSaid : Prop := tabulaPlacesRow.holds Try.pinned (OpenSpec.ofChange tabulaPlacesSpec)

/-- ITS FALSE NEIGHBOUR: 'it returns false'. Refute it at one input. -/
def tabulaPlacesWrong : ChangeSpec := { name := "tabulaPlaces", fn := fun _ => fun
  | [d1, d2] => { results := [.lit (.bool false)], args := [d1, d2] }
  | _ => none }
def TabulaPlacesWrongFalsely : Prop := tabulaPlacesRow.holds Try.pinned (OpenSpec.ofChange tabulaPlacesWrong)

/-- 'incunablelaw13.TabulaDeletes': WHATEVER THE INPUT: true; the input reads as it did. -/
def tabulaDeletesSpec : ChangeSpec := { name := "tabulaDeletes", fn := fun _ => fun
  | [d1, d2] => { results := [.lit (.bool true)], args := [d1, d2] }
  | _ => none }
def tabulaDeletesRow : OpenClaim := { program := "ytdgapagpmdfndaa", sum := "74bb615aa22c9c7dc60501f82cc666f2d076f02f7bcefc3f3ab09561dfde8421", func := "incunable/incunablelaw13.TabulaDeletes", spec := "tabulaDeletes", unfollowed := true, recurses := true, apart := false }
def TabulaDeletesSaid : Prop := tabulaDeletesRow.holds Try.pinned (OpenSpec.ofChange tabulaDeletesSpec)

/-- ITS FALSE NEIGHBOUR: 'it returns false'. Refute it at one input. -/
def tabulaDeletesWrong : ChangeSpec := { name := "tabulaDeletes", fn := fun _ => fun
  | [d1, d2] => { results := [.lit (.bool false)], args := [d1, d2] }
  | _ => none }
def TabulaDeletesWrongFalsely : Prop := tabulaDeletesRow.holds Try.pinned (OpenSpec.ofChange tabulaDeletesWrong)

/-- 'incunablelaw13.TabulaEnds': WHATEVER THE INPUT: true; the input reads as it did. -/
def tabulaEndsSpec : ChangeSpec := { name := "tabulaEnds", fn := fun _ => fun
  | [d] => { results := [.lit (.bool true)], args := [d] }
  | _ => none }
def tabulaEndsRow : OpenClaim := { program := "ytdgapagpmdfndaa", sum := "74bb615aa22c9c7dc60501f82cc666f2d076f02f7bcefc3f3ab09561dfde8421", func := "incunable/incunablelaw13.TabulaEnds", spec := "tabulaEnds", unfollowed := true, recurses := true, apart := false }
def TabulaEndsSaid : Prop := tabulaEndsRow.holds Try.pinned (OpenSpec.ofChange tabulaEndsSpec)

/-- ITS FALSE NEIGHBOUR: 'it returns false'. Refute it at one input. -/
def tabulaEndsWrong : ChangeSpec := { name := "tabulaEnds", fn := fun _ => fun
  | [d] => { results := [.lit (.bool false)], args := [d] }
  | _ => none }
def TabulaEndsWrongFalsely : Prop := tabulaEndsRow.holds Try.pinned (OpenSpec.ofChange tabulaEndsWrong)

/-- 'incunablelaw13.TabulaLoads': WHATEVER THE INPUT: true; the input reads as it did. -/
def tabulaLoadsSpec : ChangeSpec := { name := "tabulaLoads", fn := fun _ => fun
  | [d1, d2] => { results := [.lit (.bool true)], args := [d1, d2] }
  | _ => none }
def tabulaLoadsRow : OpenClaim := { program := "ytdgapagpmdfndaa", sum := "74bb615aa22c9c7dc60501f82cc666f2d076f02f7bcefc3f3ab09561dfde8421", func := "incunable/incunablelaw13.TabulaLoads", spec := "tabulaLoads", unfollowed := true, recurses := true, apart := false }
def TabulaLoadsSaid : Prop := tabulaLoadsRow.holds Try.pinned (OpenSpec.ofChange tabulaLoadsSpec)

/-- ITS FALSE NEIGHBOUR: 'it returns false'. Refute it at one input. -/
def tabulaLoadsWrong : ChangeSpec := { name := "tabulaLoads", fn := fun _ => fun
  | [d1, d2] => { results := [.lit (.bool false)], args := [d1, d2] }
  | _ => none }
def TabulaLoadsWrongFalsely : Prop := tabulaLoadsRow.holds Try.pinned (OpenSpec.ofChange tabulaLoadsWrong)

/-- 'incunablelaw13.TabulaAsks': WHATEVER THE INPUT: true; the input reads as it did. -/
def tabulaAsksSpec : ChangeSpec := { name := "tabulaAsks", fn := fun _ => fun
  | [d1, d2, d3] => { results := [.lit (.bool true)], args := [d1, d2, d3] }
  | _ => none }
def tabulaAsksRow : OpenClaim := { program := "ytdgapagpmdfndaa", sum := "74bb615aa22c9c7dc60501f82cc666f2d076f02f7bcefc3f3ab09561dfde8421", func := "incunable/incunablelaw13.TabulaAsks", spec := "tabulaAsks", unfollowed := true, recurses := true, apart := false }
def TabulaAsksSaid : Prop := tabulaAsksRow.holds Try.pinned (OpenSpec.ofChange tabulaAsksSpec)

/-- ITS FALSE NEIGHBOUR: 'it returns false'. Refute it at one input. -/
def tabulaAsksWrong : ChangeSpec := { name := "tabulaAsks", fn := fun _ => fun
  | [d1, d2, d3] => { results := [.lit (.bool false)], args := [d1, d2, d3] }
  | _ => none }
def TabulaAsksWrongFalsely : Prop := tabulaAsksRow.holds Try.pinned (OpenSpec.ofChange tabulaAsksWrong)

/- THE SECOND FORM. 'bulk': how many values and letters a reading holds, each counted each time it is reached (what is shared counts as often as it is met; a slice's spare places count too). A statement '..UptoSaid' is the law's where the arguments, and the package variables that the reading takes, are together of bulk at most 1048576: NARROWER than '..Said'. Prove '..Said' where nothing that the law and all that it calls make is longer than what came in: it says more and counts as full. Else prove '..UptoSaid'. A law counts once. -/
mutual
def uptoBulk {H : Type} : DataW H → Nat
  | .lit (.string bytes) => bytes.length + 1
  | .lit _ => 1
  | .nil => 1
  | .ptr d => uptoBulk d + 1
  | .slice elems spare => uptoBulkAll elems + uptoBulkAll spare + 1
  | .agg parts => uptoBulkAll parts + 1
  | .iface _ d => uptoBulk d + 1
  | .map entries => uptoBulkEntries entries + 1
  | .held _ => 1
def uptoBulkAll {H : Type} : List (DataW H) → Nat
  | [] => 0
  | d :: r => uptoBulk d + uptoBulkAll r
def uptoBulkEntries {H : Type} : List (Lit × DataW H) → Nat
  | [] => 0
  | x :: r => uptoBulkEntry x + uptoBulkEntries r
def uptoBulkEntry {H : Type} : Lit × DataW H → Nat
  | (.string bytes, d) => bytes.length + uptoBulk d + 1
  | (_, d) => uptoBulk d + 1
 end
def uptoSmall : (H : Type) → List (DataW H) → Bool := fun _ ds => decide (uptoBulkAll ds ≤ 1048576)
def OpenSpec.upto (s : _root_.Go.ChangeSpec) : _root_.Go.OpenSpec := { _root_.Go.OpenSpec.ofChange s with cond := some uptoSmall }

/-- 'incunablelaw13.TabulaAll', WHERE WHAT IT READS IS OF BULK AT MOST 1048576: true; the input reads as it did. -/
def tabulaAllUptoRow : OpenClaim := { program := "ytdgapagpmdfndaa", sum := "74bb615aa22c9c7dc60501f82cc666f2d076f02f7bcefc3f3ab09561dfde8421", func := "incunable/incunablelaw13.TabulaAll", spec := "tabulaAll", unfollowed := true, recurses := true, apart := false, narrowed := true }
def TabulaAllUptoSaid : Prop := tabulaAllUptoRow.holds Try.pinned (OpenSpec.upto tabulaAllSpec)

/-- 'incunablelaw13.TabulaOrder', WHERE WHAT IT READS IS OF BULK AT MOST 1048576: true; the input reads as it did. -/
def tabulaOrderUptoRow : OpenClaim := { program := "ytdgapagpmdfndaa", sum := "74bb615aa22c9c7dc60501f82cc666f2d076f02f7bcefc3f3ab09561dfde8421", func := "incunable/incunablelaw13.TabulaOrder", spec := "tabulaOrder", unfollowed := true, recurses := true, apart := false, narrowed := true }
def TabulaOrderUptoSaid : Prop := tabulaOrderUptoRow.holds Try.pinned (OpenSpec.upto tabulaOrderSpec)

/-- 'incunablelaw13.TabulaPlaces', WHERE WHAT IT READS IS OF BULK AT MOST 1048576: true; the input reads as it did. -/
def tabulaPlacesUptoRow : OpenClaim := { program := "ytdgapagpmdfndaa", sum := "74bb615aa22c9c7dc60501f82cc666f2d076f02f7bcefc3f3ab09561dfde8421", func := "incunable/incunablelaw13.TabulaPlaces", spec := "tabulaPlaces", unfollowed := true, recurses := true, apart := false, narrowed := true }
def TabulaPlacesUptoSaid : Prop := tabulaPlacesUptoRow.holds Try.pinned (OpenSpec.upto tabulaPlacesSpec)

/-- 'incunablelaw13.TabulaDeletes', WHERE WHAT IT READS IS OF BULK AT MOST 1048576: true; the input reads as it did. -/
def tabulaDeletesUptoRow : OpenClaim := { program := "ytdgapagpmdfndaa", sum := "74bb615aa22c9c7dc60501f82cc666f2d076f02f7bcefc3f3ab09561dfde8421", func := "incunable/incunablelaw13.TabulaDeletes", spec := "tabulaDeletes", unfollowed := true, recurses := true, apart := false, narrowed := true }
def TabulaDeletesUptoSaid : Prop := tabulaDeletesUptoRow.holds Try.pinned (OpenSpec.upto tabulaDeletesSpec)

/-- 'incunablelaw13.TabulaEnds', WHERE WHAT IT READS IS OF BULK AT MOST 1048576: true; the input reads as it did. -/
def tabulaEndsUptoRow : OpenClaim := { program := "ytdgapagpmdfndaa", sum := "74bb615aa22c9c7dc60501f82cc666f2d076f02f7bcefc3f3ab09561dfde8421", func := "incunable/incunablelaw13.TabulaEnds", spec := "tabulaEnds", unfollowed := true, recurses := true, apart := false, narrowed := true }
def TabulaEndsUptoSaid : Prop := tabulaEndsUptoRow.holds Try.pinned (OpenSpec.upto tabulaEndsSpec)

/-- 'incunablelaw13.TabulaLoads', WHERE WHAT IT READS IS OF BULK AT MOST 1048576: true; the input reads as it did. -/
def tabulaLoadsUptoRow : OpenClaim := { program := "ytdgapagpmdfndaa", sum := "74bb615aa22c9c7dc60501f82cc666f2d076f02f7bcefc3f3ab09561dfde8421", func := "incunable/incunablelaw13.TabulaLoads", spec := "tabulaLoads", unfollowed := true, recurses := true, apart := false, narrowed := true }
def TabulaLoadsUptoSaid : Prop := tabulaLoadsUptoRow.holds Try.pinned (OpenSpec.upto tabulaLoadsSpec)

/-- 'incunablelaw13.TabulaAsks', WHERE WHAT IT READS IS OF BULK AT MOST 1048576: true; the input reads as it did. -/
def tabulaAsksUptoRow : OpenClaim := { program := "ytdgapagpmdfndaa", sum := "74bb615aa22c9c7dc60501f82cc666f2d076f02f7bcefc3f3ab09561dfde8421", func := "incunable/incunablelaw13.TabulaAsks", spec := "tabulaAsks", unfollowed := true, recurses := true, apart := false, narrowed := true }
def TabulaAsksUptoSaid : Prop := tabulaAsksUptoRow.holds Try.pinned (OpenSpec.upto tabulaAsksSpec)

end Rows
end Go.Proofs.Ytdgapagpmdfndaa
