/- THE PLAIN SIDE OF LAYER 14 (spans): the document's Check. -/
import Derived.Test.YtahdlbckcddeeaaSpansPlain5
import Derived.Test.YtahdlbckcddeeaaParseF
namespace Go.Proofs.Ytahdlbckcddeeaa
open Go.RowKit
set_option linter.unusedVariables false
def rHead (s : List (Int × Int)) (k : Nat) : Bool := headOk s k && decide (k = 0 ∨ (s.getD (k - 1) default).1 < (s.getD k default).1)
def rPair (L : List Item) (s : List (Int × Int)) (k i : Nat) : Bool := (decide (k < endP L i) == inB (s.getD k default) (s.getD i default)) && (inB (s.getD k default) (s.getD i default) || aheadB (s.getD i default) (s.getD k default))
def rRow (L : List Item) (s : List (Int × Int)) (k : Nat) : Bool := rHead s k && (List.range k).all (rPair L s k)
noncomputable def rcheckSB (L : List Item) (s : List (Int × Int)) : Bool := decide ((checkP L).2 = 0 ∧ s.length = L.length) && (List.range L.length).all (rRow L s)
theorem rcheckSB_err {L : List Item} {s : List (Int × Int)} (h : (checkP L).2 ≠ 0) : rcheckSB L s = false := by
  unfold rcheckSB; rw [decide_eq_false (by rintro ⟨h1, _⟩; exact h h1)]; rfl
theorem rcheckSB_len {L : List Item} {s : List (Int × Int)} (h : s.length ≠ L.length) : rcheckSB L s = false := by
  unfold rcheckSB; rw [decide_eq_false (by rintro ⟨_, h1⟩; exact h h1)]; rfl
theorem rcheckSB_no {L : List Item} {s : List (Int × Int)} (h : (checkP L).2 = 0 ∧ s.length = L.length) (k : Nat) (hk : k < L.length) (hr : rRow L s k = false) : rcheckSB L s = false := by
  unfold rcheckSB
  rw [show (List.range L.length).all (rRow L s) = false from ?_, Bool.and_false]
  rw [Bool.eq_false_iff]
  intro ha
  rw [List.all_eq_true] at ha
  rw [ha k (List.mem_range.2 hk)] at hr
  cases hr
theorem rcheckSB_yes {L : List Item} {s : List (Int × Int)} (h : (checkP L).2 = 0 ∧ s.length = L.length) (hr : ∀ k, k < L.length → rRow L s k = true) : rcheckSB L s = true := by
  unfold rcheckSB
  rw [decide_eq_true h, Bool.true_and, List.all_eq_true]
  exact fun k hk => hr k (List.mem_range.1 hk)
theorem rRow_head (L : List Item) (s : List (Int × Int)) (k : Nat) (h : headOk s k = false) : rRow L s k = false := by unfold rRow rHead; rw [h]; rfl
theorem rRow_prev (L : List Item) (s : List (Int × Int)) (k : Nat) (h : ¬ (k = 0 ∨ (s.getD (k - 1) default).1 < (s.getD k default).1)) : rRow L s k = false := by unfold rRow rHead; rw [decide_eq_false h, Bool.and_false]; rfl
theorem rRow_pair (L : List Item) (s : List (Int × Int)) (k i : Nat) (hi : i < k) (h : rPair L s k i = false) : rRow L s k = false := by
  unfold rRow
  rw [show (List.range k).all (rPair L s k) = false from ?_, Bool.and_false]
  rw [Bool.eq_false_iff]
  intro ha
  rw [List.all_eq_true] at ha
  rw [ha i (List.mem_range.2 hi)] at h
  cases h
theorem rRow_yes (L : List Item) (s : List (Int × Int)) (k : Nat) (h1 : headOk s k = true) (h2 : k = 0 ∨ (s.getD (k - 1) default).1 < (s.getD k default).1) (h3 : ∀ i, i < k → rPair L s k i = true) : rRow L s k = true := by
  unfold rRow rHead
  rw [h1, decide_eq_true h2, Bool.true_and, Bool.true_and, List.all_eq_true]
  exact fun i hi => h3 i (List.mem_range.1 hi)
end Go.Proofs.Ytahdlbckcddeeaa
