/- THE PLAIN SIDE OF LAYER 14 (spans): the document's Levels. -/
import Derived.Test.YtahdlbckcddeeaaSpansPlain
namespace Go.Proofs.Ytahdlbckcddeeaa
open Go.RowKit
def headOk (s : List (Int × Int)) (k : Nat) : Bool := (insideB (s.getD k default).1 && insideB (s.getD k default).2) && decide ((s.getD k default).1 < (s.getD k default).2)
def pairOk (s : List (Int × Int)) (k i : Nat) : Bool := decide ((s.getD i default).1 < (s.getD k default).1) && (inB (s.getD k default) (s.getD i default) || aheadB (s.getD i default) (s.getD k default))
def refOk (s : List (Int × Int)) (k : Nat) : Bool := headOk s k && (List.range k).all (pairOk s k)
def cntTo (s : List (Int × Int)) (k i : Nat) : Nat := ((List.range i).filter (fun j => inB (s.getD k default) (s.getD j default))).length
def refLevelsP (s : List (Int × Int)) : Option (List Int) := if (List.range s.length).all (refOk s) then some ((List.range s.length).map (fun k => (cntTo s k k : Int))) else none
theorem cntTo_succ (s : List (Int × Int)) (k i : Nat) : cntTo s k (i + 1) = cntTo s k i + if inB (s.getD k default) (s.getD i default) then 1 else 0 := by
  unfold cntTo
  rw [List.range_succ, List.filter_append, List.length_append]
  congr 1
  by_cases h : inB (s.getD k default) (s.getD i default) = true
  · rw [if_pos h, List.filter_cons_of_pos (by exact h)]; rfl
  · rw [if_neg h, List.filter_cons_of_neg (by exact h)]; rfl
theorem cntTo_le (s : List (Int × Int)) (k i : Nat) : cntTo s k i ≤ i := by
  unfold cntTo
  refine Nat.le_trans (List.length_filter_le _ _) ?_
  rw [List.length_range]
  exact Nat.le_refl _
theorem refLevels_no (s : List (Int × Int)) (k : Nat) (hk : k < s.length) (h : refOk s k = false) : refLevelsP s = none := by
  unfold refLevelsP
  rw [if_neg]
  intro ha
  rw [List.all_eq_true] at ha
  rw [ha k (List.mem_range.2 hk)] at h
  cases h
theorem refOk_head (s : List (Int × Int)) (k : Nat) (h : headOk s k = false) : refOk s k = false := by unfold refOk; rw [h]; rfl
theorem refOk_pair (s : List (Int × Int)) (k i : Nat) (hi : i < k) (h : pairOk s k i = false) : refOk s k = false := by
  unfold refOk
  rw [show (List.range k).all (pairOk s k) = false from ?_, Bool.and_false]
  rw [Bool.eq_false_iff]
  intro ha
  rw [List.all_eq_true] at ha
  rw [ha i (List.mem_range.2 hi)] at h
  cases h
theorem refOk_yes (s : List (Int × Int)) (k : Nat) (h : headOk s k = true) (ha : ∀ i, i < k → pairOk s k i = true) : refOk s k = true := by
  unfold refOk
  rw [h, Bool.true_and, List.all_eq_true]
  intro i hi
  exact ha i (List.mem_range.1 hi)
theorem refLevels_yes (s : List (Int × Int)) (h : ∀ k, k < s.length → refOk s k = true) : refLevelsP s = some ((List.range s.length).map (fun k => (cntTo s k k : Int))) := by
  unfold refLevelsP
  rw [if_pos]
  rw [List.all_eq_true]
  intro k hk
  exact h k (List.mem_range.1 hk)
end Go.Proofs.Ytahdlbckcddeeaa
