/- THE PLAIN SIDE OF LAYER 4 (parse): which rows of items are documents. -/
import Derived.Test.YtahdlbckcddeeaaGlyphPlain4
import Derived.Lib.Strings
namespace Go.Proofs.Ytahdlbckcddeeaa
open Go.RowKit

structure Item where
  level : Int
  kind : Int
  name : ByteArray
  text : ByteArray
  attrs : List (ByteArray × ByteArray)

def place0 (lv kd : Int) : Int := if lv ≠ 0 ∨ kd ≠ 1 then 69 else 0
def place1 (lv lv0 kd0 : Int) (k : Nat) : Int := if lv < 1 ∨ lv0 + 1 < lv ∨ (lv0 < lv ∧ kd0 = 2) then 69 else if 40 ≤ lv then 42 else if 1000 ≤ k then 43 else 0

noncomputable def charsP (s : ByteArray) : Int := if countP s.data.toList < 0 then 64 else if 1500 < s.size then 67 else 0
/-- 'a <= b', as the walk spells it. -/
def leB (a b : ByteArray) : Bool := Op.bytesLess a.toList b.toList || a.toList == b.toList
/-- Do names rise, and are they names? 'last': the one before. -/
noncomputable def namesB : ByteArray → List (ByteArray × ByteArray) → Bool
  | _, [] => true
  | last, a :: r => nameP a.1.data.toList && !leB a.1 last && namesB a.1 r
noncomputable def namesP (x : Item) : Int := if nameP x.name.data.toList = false then 63 else if namesB ByteArray.empty x.attrs = false then 63 else if 20 < x.attrs.length then 67 else 0
/-- The first error among values' texts. -/
noncomputable def valuesP : Int → List (ByteArray × ByteArray) → Int
  | e, [] => e
  | e, a :: r => valuesP (if e = 0 then charsP a.2 else e) r
noncomputable def partsP (x : Item) : Int :=
  if x.kind = 2 ∧ x.name.size = 0 ∧ x.attrs.length = 0 then charsP x.text
  else if x.kind ≠ 1 ∨ x.text.size ≠ 0 then 68
  else valuesP (namesP x) x.attrs

/-- Why an item may not be: 'prev': the level and the kind of the one ahead. -/
noncomputable def oneP (k : Nat) (prev x : Item) : Int :=
  if (if k = 0 then place0 x.level x.kind else place1 x.level prev.level prev.kind k) ≠ 0 then (if k = 0 then place0 x.level x.kind else place1 x.level prev.level prev.kind k) else partsP x
instance : Inhabited Item := ⟨⟨0, 0, ByteArray.empty, ByteArray.empty, []⟩⟩
/-- From an item on: the number and the error. -/
noncomputable def checkFrom (L : List Item) : Nat → Nat → Int × Int
  | 0, _ => (0, 0)
  | m + 1, k => if oneP k (L.getD (k - 1) default) (L.getD k default) ≠ 0 then ((k : Int), oneP k (L.getD (k - 1) default) (L.getD k default)) else checkFrom L m (k + 1)
noncomputable def checkP (L : List Item) : Int × Int := if L = [] then (0, 40) else checkFrom L L.length 0
end Go.Proofs.Ytahdlbckcddeeaa
