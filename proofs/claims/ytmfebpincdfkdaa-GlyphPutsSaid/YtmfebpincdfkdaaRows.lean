/-
  No cell of these rows narrows 'for every input' (looked for: loops, veiled, ifaces, maps, wideKeys, modest, calm, conditions, laid).
  DERIVED. THE GIVEN ROWS OF THIS SEAT. 8 by the template 'for every input the law returns true; each argument reads behind the call as it read before'; 0 by the template 'total and deterministic' (their statements: YtmfebpincdfkdaaTotals.lean).
  GIVEN WITH THE SEED: the statements are not yours to turn. If you find one false, say at which input.
  Laid BY PROGRAM, IN A SANDBOX (cutbox-rows.mjs): the forced cells as the released guide's own fill.sh prints them over the translation 476c583b971df930… (all of the seat's roots in one cut). By AI agents, Wed Nov 11 2026. No macro, syntax, notation, axiom, sorry.
-/
import Derived.Test.YtmfebpincdfkdaaChecked
import GoSem.Claim
import GoSem.ClaimJoined
import GoSem.ClaimMapViews
import Derived.JoinedTies
import Derived.KernelRfl
namespace Go.Proofs.Ytmfebpincdfkdaa
/- THE CELL 'sum', in the pinned program and in every row, IS THE sha256 OF THE DUMP (.gsa) THAT YtmfebpincdfkdaaProg.lean LOADS. Nothing in Lean hashes anything: it is a label: what it is worth is what the hold of that sum in a sandbox is worth. -/
noncomputable def Try.pinned : Pinned := { name := "ytmfebpincdfkdaa", sum := "476c583b971df930dcef27d2d8d4e7183abbd1546ed7d4a726acc58a838c9dfe", checked := Try.checked }
namespace Rows
def none {H : Type} : Left H := { results := [], args := [] }

/-- 'incunablelaw01.GlyphKinds': WHATEVER THE INPUT: true; the input reads as it did. -/
def glyphKindsSpec : ChangeSpec := { name := "glyphKinds", fn := fun _ => fun
  | [d] => { results := [.lit (.bool true)], args := [d] }
  | _ => none }
def glyphKindsRow : OpenClaim := { program := "ytmfebpincdfkdaa", sum := "476c583b971df930dcef27d2d8d4e7183abbd1546ed7d4a726acc58a838c9dfe", func := "incunable/incunablelaw01.GlyphKinds", spec := "glyphKinds", unfollowed := true, recurses := true, apart := false }
def GlyphKindsSaid : Prop := glyphKindsRow.holds Try.pinned (OpenSpec.ofChange glyphKindsSpec)

/-- ITS FALSE NEIGHBOUR: 'it returns false'. Refute it at one input. -/
def glyphKindsWrong : ChangeSpec := { name := "glyphKinds", fn := fun _ => fun
  | [d] => { results := [.lit (.bool false)], args := [d] }
  | _ => none }
def GlyphKindsWrongFalsely : Prop := glyphKindsRow.holds Try.pinned (OpenSpec.ofChange glyphKindsWrong)

/-- 'incunablelaw01.GlyphPuts': WHATEVER THE INPUT: true; the input reads as it did. -/
def glyphPutsSpec : ChangeSpec := { name := "glyphPuts", fn := fun _ => fun
  | [d1, d2] => { results := [.lit (.bool true)], args := [d1, d2] }
  | _ => none }
def glyphPutsRow : OpenClaim := { program := "ytmfebpincdfkdaa", sum := "476c583b971df930dcef27d2d8d4e7183abbd1546ed7d4a726acc58a838c9dfe", func := "incunable/incunablelaw01.GlyphPuts", spec := "glyphPuts", unfollowed := true, recurses := true, apart := false }
def GlyphPutsSaid : Prop := glyphPutsRow.holds Try.pinned (OpenSpec.ofChange glyphPutsSpec)

/-- ITS FALSE NEIGHBOUR: 'it returns false'. Refute it at one input. -/
def glyphPutsWrong : ChangeSpec := { name := "glyphPuts", fn := fun _ => fun
  | [d1, d2] => { results := [.lit (.bool false)], args := [d1, d2] }
  | _ => none }
def GlyphPutsWrongFalsely : Prop := glyphPutsRow.holds Try.pinned (OpenSpec.ofChange glyphPutsWrong)

/-- 'incunablelaw01.GlyphNexts': WHATEVER THE INPUT: true; the input reads as it did. -/
def glyphNextsSpec : ChangeSpec := { name := "glyphNexts", fn := fun _ => fun
  | [d] => { results := [.lit (.bool true)], args := [d] }
  | _ => none }
def glyphNextsRow : OpenClaim := { program := "ytmfebpincdfkdaa", sum := "476c583b971df930dcef27d2d8d4e7183abbd1546ed7d4a726acc58a838c9dfe", func := "incunable/incunablelaw01.GlyphNexts", spec := "glyphNexts", unfollowed := true, recurses := true, apart := false }
def GlyphNextsSaid : Prop := glyphNextsRow.holds Try.pinned (OpenSpec.ofChange glyphNextsSpec)

/-- ITS FALSE NEIGHBOUR: 'it returns false'. Refute it at one input. -/
def glyphNextsWrong : ChangeSpec := { name := "glyphNexts", fn := fun _ => fun
  | [d] => { results := [.lit (.bool false)], args := [d] }
  | _ => none }
def GlyphNextsWrongFalsely : Prop := glyphNextsRow.holds Try.pinned (OpenSpec.ofChange glyphNextsWrong)

/-- 'incunablelaw01.GlyphNames': WHATEVER THE INPUT: true; the input reads as it did. -/
def glyphNamesSpec : ChangeSpec := { name := "glyphNames", fn := fun _ => fun
  | [d] => { results := [.lit (.bool true)], args := [d] }
  | _ => none }
def glyphNamesRow : OpenClaim := { program := "ytmfebpincdfkdaa", sum := "476c583b971df930dcef27d2d8d4e7183abbd1546ed7d4a726acc58a838c9dfe", func := "incunable/incunablelaw01.GlyphNames", spec := "glyphNames", unfollowed := true, recurses := true, apart := false }
def GlyphNamesSaid : Prop := glyphNamesRow.holds Try.pinned (OpenSpec.ofChange glyphNamesSpec)

/-- ITS FALSE NEIGHBOUR: 'it returns false'. Refute it at one input. -/
def glyphNamesWrong : ChangeSpec := { name := "glyphNames", fn := fun _ => fun
  | [d] => { results := [.lit (.bool false)], args := [d] }
  | _ => none }
def GlyphNamesWrongFalsely : Prop := glyphNamesRow.holds Try.pinned (OpenSpec.ofChange glyphNamesWrong)

/-- 'incunablelaw01.GlyphOrder': WHATEVER THE INPUT: true; the input reads as it did. -/
def glyphOrderSpec : ChangeSpec := { name := "glyphOrder", fn := fun _ => fun
  | [d] => { results := [.lit (.bool true)], args := [d] }
  | _ => none }
def glyphOrderRow : OpenClaim := { program := "ytmfebpincdfkdaa", sum := "476c583b971df930dcef27d2d8d4e7183abbd1546ed7d4a726acc58a838c9dfe", func := "incunable/incunablelaw01.GlyphOrder", spec := "glyphOrder", unfollowed := true, recurses := true, apart := false }
def GlyphOrderSaid : Prop := glyphOrderRow.holds Try.pinned (OpenSpec.ofChange glyphOrderSpec)

/-- ITS FALSE NEIGHBOUR: 'it returns false'. Refute it at one input. -/
def glyphOrderWrong : ChangeSpec := { name := "glyphOrder", fn := fun _ => fun
  | [d] => { results := [.lit (.bool false)], args := [d] }
  | _ => none }
def GlyphOrderWrongFalsely : Prop := glyphOrderRow.holds Try.pinned (OpenSpec.ofChange glyphOrderWrong)

/-- 'incunablelaw01.GlyphAhead': WHATEVER THE INPUT: true; the input reads as it did. -/
def glyphAheadSpec : ChangeSpec := { name := "glyphAhead", fn := fun _ => fun
  | [d1, d2] => { results := [.lit (.bool true)], args := [d1, d2] }
  | _ => none }
def glyphAheadRow : OpenClaim := { program := "ytmfebpincdfkdaa", sum := "476c583b971df930dcef27d2d8d4e7183abbd1546ed7d4a726acc58a838c9dfe", func := "incunable/incunablelaw01.GlyphAhead", spec := "glyphAhead", unfollowed := true, recurses := true, apart := false }
def GlyphAheadSaid : Prop := glyphAheadRow.holds Try.pinned (OpenSpec.ofChange glyphAheadSpec)

/-- ITS FALSE NEIGHBOUR: 'it returns false'. Refute it at one input. -/
def glyphAheadWrong : ChangeSpec := { name := "glyphAhead", fn := fun _ => fun
  | [d1, d2] => { results := [.lit (.bool false)], args := [d1, d2] }
  | _ => none }
def GlyphAheadWrongFalsely : Prop := glyphAheadRow.holds Try.pinned (OpenSpec.ofChange glyphAheadWrong)

/-- 'incunablelaw01.GlyphCounts': WHATEVER THE INPUT: true; the input reads as it did. -/
def glyphCountsSpec : ChangeSpec := { name := "glyphCounts", fn := fun _ => fun
  | [d1, d2] => { results := [.lit (.bool true)], args := [d1, d2] }
  | _ => none }
def glyphCountsRow : OpenClaim := { program := "ytmfebpincdfkdaa", sum := "476c583b971df930dcef27d2d8d4e7183abbd1546ed7d4a726acc58a838c9dfe", func := "incunable/incunablelaw01.GlyphCounts", spec := "glyphCounts", unfollowed := true, recurses := true, apart := false }
def GlyphCountsSaid : Prop := glyphCountsRow.holds Try.pinned (OpenSpec.ofChange glyphCountsSpec)

/-- ITS FALSE NEIGHBOUR: 'it returns false'. Refute it at one input. -/
def glyphCountsWrong : ChangeSpec := { name := "glyphCounts", fn := fun _ => fun
  | [d1, d2] => { results := [.lit (.bool false)], args := [d1, d2] }
  | _ => none }
def GlyphCountsWrongFalsely : Prop := glyphCountsRow.holds Try.pinned (OpenSpec.ofChange glyphCountsWrong)

/-- 'incunablelaw01.GlyphSteps': WHATEVER THE INPUT: true; the input reads as it did. -/
def glyphStepsSpec : ChangeSpec := { name := "glyphSteps", fn := fun _ => fun
  | [d] => { results := [.lit (.bool true)], args := [d] }
  | _ => none }
def glyphStepsRow : OpenClaim := { program := "ytmfebpincdfkdaa", sum := "476c583b971df930dcef27d2d8d4e7183abbd1546ed7d4a726acc58a838c9dfe", func := "incunable/incunablelaw01.GlyphSteps", spec := "glyphSteps", unfollowed := true, recurses := true, apart := false }
def GlyphStepsSaid : Prop := glyphStepsRow.holds Try.pinned (OpenSpec.ofChange glyphStepsSpec)

/-- ITS FALSE NEIGHBOUR: 'it returns false'. Refute it at one input. -/
def glyphStepsWrong : ChangeSpec := { name := "glyphSteps", fn := fun _ => fun
  | [d] => { results := [.lit (.bool false)], args := [d] }
  | _ => none }
def GlyphStepsWrongFalsely : Prop := glyphStepsRow.holds Try.pinned (OpenSpec.ofChange glyphStepsWrong)

/- THE SECOND FORM. 'bulk': how many values and letters a reading holds, each counted each time it is reached (what is shared counts as often as it is met; a slice's spare places count too). A statement '..UptoSaid' is the law's where the arguments, and the package variables that the reading takes, are together of bulk at most 1048576: NARROWER than '..Said'. Prove '..Said' where nothing that the law and all that it calls make is longer than what came in: it says more and counts as full. Else prove '..UptoSaid'. A law counts once. -/
mutual
def uptoBulk {H : Type} : DataW H → Nat
  | .lit (.string bytes) => bytes.length + 1
  | .lit _ => 1
  | .nil => 1
  | .ptr d => uptoBulk d + 1
  | .slice elems spare => uptoBulkAll elems + uptoBulkAll spare + 1
  | .agg parts => uptoBulkAll parts + 1
  | .iface _ d => uptoBulk d + 1
  | .map entries => uptoBulkEntries entries + 1
  | .held _ => 1
def uptoBulkAll {H : Type} : List (DataW H) → Nat
  | [] => 0
  | d :: r => uptoBulk d + uptoBulkAll r
def uptoBulkEntries {H : Type} : List (Lit × DataW H) → Nat
  | [] => 0
  | x :: r => uptoBulkEntry x + uptoBulkEntries r
def uptoBulkEntry {H : Type} : Lit × DataW H → Nat
  | (.string bytes, d) => bytes.length + uptoBulk d + 1
  | (_, d) => uptoBulk d + 1
 end
def uptoSmall : (H : Type) → List (DataW H) → Bool := fun _ ds => decide (uptoBulkAll ds ≤ 1048576)
def OpenSpec.upto (s : _root_.Go.ChangeSpec) : _root_.Go.OpenSpec := { _root_.Go.OpenSpec.ofChange s with cond := some uptoSmall }

/-- 'incunablelaw01.GlyphKinds', WHERE WHAT IT READS IS OF BULK AT MOST 1048576: true; the input reads as it did. -/
def glyphKindsUptoRow : OpenClaim := { program := "ytmfebpincdfkdaa", sum := "476c583b971df930dcef27d2d8d4e7183abbd1546ed7d4a726acc58a838c9dfe", func := "incunable/incunablelaw01.GlyphKinds", spec := "glyphKinds", unfollowed := true, recurses := true, apart := false, narrowed := true }
def GlyphKindsUptoSaid : Prop := glyphKindsUptoRow.holds Try.pinned (OpenSpec.upto glyphKindsSpec)

/-- 'incunablelaw01.GlyphPuts', WHERE WHAT IT READS IS OF BULK AT MOST 1048576: true; the input reads as it did. -/
def glyphPutsUptoRow : OpenClaim := { program := "ytmfebpincdfkdaa", sum := "476c583b971df930dcef27d2d8d4e7183abbd1546ed7d4a726acc58a838c9dfe", func := "incunable/incunablelaw01.GlyphPuts", spec := "glyphPuts", unfollowed := true, recurses := true, apart := false, narrowed := true }
def GlyphPutsUptoSaid : Prop := glyphPutsUptoRow.holds Try.pinned (OpenSpec.upto glyphPutsSpec)

/-- 'incunablelaw01.GlyphNexts', WHERE WHAT IT READS IS OF BULK AT MOST 1048576: true; the input reads as it did. -/
def glyphNextsUptoRow : OpenClaim := { program := "ytmfebpincdfkdaa", sum := "476c583b971df930dcef27d2d8d4e7183abbd1546ed7d4a726acc58a838c9dfe", func := "incunable/incunablelaw01.GlyphNexts", spec := "glyphNexts", unfollowed := true, recurses := true, apart := false, narrowed := true }
def GlyphNextsUptoSaid : Prop := glyphNextsUptoRow.holds Try.pinned (OpenSpec.upto glyphNextsSpec)

/-- 'incunablelaw01.GlyphNames', WHERE WHAT IT READS IS OF BULK AT MOST 1048576: true; the input reads as it did. -/
def glyphNamesUptoRow : OpenClaim := { program := "ytmfebpincdfkdaa", sum := "476c583b971df930dcef27d2d8d4e7183abbd1546ed7d4a726acc58a838c9dfe", func := "incunable/incunablelaw01.GlyphNames", spec := "glyphNames", unfollowed := true, recurses := true, apart := false, narrowed := true }
def GlyphNamesUptoSaid : Prop := glyphNamesUptoRow.holds Try.pinned (OpenSpec.upto glyphNamesSpec)

/-- 'incunablelaw01.GlyphOrder', WHERE WHAT IT READS IS OF BULK AT MOST 1048576: true; the input reads as it did. -/
def glyphOrderUptoRow : OpenClaim := { program := "ytmfebpincdfkdaa", sum := "476c583b971df930dcef27d2d8d4e7183abbd1546ed7d4a726acc58a838c9dfe", func := "incunable/incunablelaw01.GlyphOrder", spec := "glyphOrder", unfollowed := true, recurses := true, apart := false, narrowed := true }
def GlyphOrderUptoSaid : Prop := glyphOrderUptoRow.holds Try.pinned (OpenSpec.upto glyphOrderSpec)

/-- 'incunablelaw01.GlyphAhead', WHERE WHAT IT READS IS OF BULK AT MOST 1048576: true; the input reads as it did. -/
def glyphAheadUptoRow : OpenClaim := { program := "ytmfebpincdfkdaa", sum := "476c583b971df930dcef27d2d8d4e7183abbd1546ed7d4a726acc58a838c9dfe", func := "incunable/incunablelaw01.GlyphAhead", spec := "glyphAhead", unfollowed := true, recurses := true, apart := false, narrowed := true }
def GlyphAheadUptoSaid : Prop := glyphAheadUptoRow.holds Try.pinned (OpenSpec.upto glyphAheadSpec)

/-- 'incunablelaw01.GlyphCounts', WHERE WHAT IT READS IS OF BULK AT MOST 1048576: true; the input reads as it did. -/
def glyphCountsUptoRow : OpenClaim := { program := "ytmfebpincdfkdaa", sum := "476c583b971df930dcef27d2d8d4e7183abbd1546ed7d4a726acc58a838c9dfe", func := "incunable/incunablelaw01.GlyphCounts", spec := "glyphCounts", unfollowed := true, recurses := true, apart := false, narrowed := true }
def GlyphCountsUptoSaid : Prop := glyphCountsUptoRow.holds Try.pinned (OpenSpec.upto glyphCountsSpec)

/-- 'incunablelaw01.GlyphSteps', WHERE WHAT IT READS IS OF BULK AT MOST 1048576: true; the input reads as it did. -/
def glyphStepsUptoRow : OpenClaim := { program := "ytmfebpincdfkdaa", sum := "476c583b971df930dcef27d2d8d4e7183abbd1546ed7d4a726acc58a838c9dfe", func := "incunable/incunablelaw01.GlyphSteps", spec := "glyphSteps", unfollowed := true, recurses := true, apart := false, narrowed := true }
def GlyphStepsUptoSaid : Prop := glyphStepsUptoRow.holds Try.pinned (OpenSpec.upto glyphStepsSpec)

end Rows
end Go.Proofs.Ytmfebpincdfkdaa
