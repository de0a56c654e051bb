/- THE PLAIN SIDE OF LAYER 1 (glyph): the characters of a text; names. -/
import Derived.Test.YtoflicfghonhcaaGlyphPlain3
namespace Go.Proofs.Ytoflicfghonhcaa
open Go.RowKit

/-- The characters of a text; none, if it is not made of such. -/
noncomputable def allF : Nat → List UInt8 → Option (List Int)
  | 0, l => if l = [] then some [] else none
  | k + 1, l => if l = [] then some [] else if (nextP l).2 = 0 then none else (allF k (l.drop (nextP l).2)).map ((nextP l).1 :: ·)
noncomputable def allP (l : List UInt8) : Option (List Int) := allF l.length l
theorem allF_nil (k : Nat) : allF k [] = some [] := by cases k <;> simp [allF]
theorem allF_more (k : Nat) : ∀ (l : List UInt8) (m : Nat), l.length ≤ k → k ≤ m → allF k l = allF m l := by
  induction k with
  | zero =>
    intro l m h _
    have : l = [] := List.eq_nil_of_length_eq_zero (by omega)
    subst this
    rw [allF_nil, allF_nil]
  | succ k ih =>
    intro l m h hm
    obtain ⟨m, rfl⟩ : ∃ m', m = m' + 1 := ⟨m - 1, by omega⟩
    simp only [allF]
    by_cases h0 : l = []
    · rw [if_pos h0, if_pos h0]
    · rw [if_neg h0, if_neg h0]
      by_cases hn : (nextP l).2 = 0
      · rw [if_pos hn, if_pos hn]
      · rw [if_neg hn, if_neg hn, ih (l.drop (nextP l).2) m (by rw [List.length_drop]; omega) (by omega)]
theorem allP_nil : allP [] = some [] := allF_nil _
theorem allP_bad {l : List UInt8} (h0 : l ≠ []) (hn : (nextP l).2 = 0) : allP l = none := by
  unfold allP
  obtain ⟨k, hk⟩ : ∃ k, l.length = k + 1 := ⟨l.length - 1, by have := List.length_pos_iff.2 h0; omega⟩
  rw [hk]
  simp only [allF]
  rw [if_neg h0, if_pos hn]
theorem allP_step {l : List UInt8} (h0 : l ≠ []) (hn : (nextP l).2 ≠ 0) : allP l = (allP (l.drop (nextP l).2)).map ((nextP l).1 :: ·) := by
  unfold allP
  obtain ⟨k, hk⟩ : ∃ k, l.length = k + 1 := ⟨l.length - 1, by have := List.length_pos_iff.2 h0; omega⟩
  rw [hk]
  simp only [allF]
  rw [if_neg h0, if_neg hn, allF_more (l.drop (nextP l).2).length _ k (Nat.le_refl _) (by rw [List.length_drop]; omega)]
theorem allP_len : ∀ (k : Nat) (l : List UInt8), l.length ≤ k → ∀ cs, allP l = some cs → cs.length ≤ l.length := by
  intro k
  induction k with
  | zero =>
    intro l h cs hc
    have : l = [] := List.eq_nil_of_length_eq_zero (by omega)
    subst this
    rw [allP_nil] at hc
    cases hc; simp
  | succ k ih =>
    intro l h cs hc
    by_cases h0 : l = []
    · subst h0; rw [allP_nil] at hc; cases hc; simp
    · by_cases hn : (nextP l).2 = 0
      · rw [allP_bad h0 hn] at hc; cases hc
      · rw [allP_step h0 hn] at hc
        cases hd : allP (l.drop (nextP l).2) with
        | none => rw [hd] at hc; cases hc
        | some ds =>
          rw [hd] at hc
          cases hc
          have := ih (l.drop (nextP l).2) (by rw [List.length_drop]; omega) ds hd
          have h2 := nextP_le l
          rw [List.length_drop] at this
          simp only [List.length_cons]
          omega

/-- How many there are, from 'm' on; -1, if the text is not made of such. -/
noncomputable def countFrom (m : Nat) (l : List UInt8) : Int := match allP l with | none => -1 | some cs => ((m + cs.length : Nat) : Int)
noncomputable def countP (l : List UInt8) : Int := countFrom 0 l
theorem countFrom_nil (m : Nat) : countFrom m [] = (m : Int) := by simp [countFrom, allP_nil]
theorem countFrom_bad (m : Nat) {l : List UInt8} (h0 : l ≠ []) (hn : (nextP l).2 = 0) : countFrom m l = -1 := by simp [countFrom, allP_bad h0 hn]
theorem countFrom_step (m : Nat) {l : List UInt8} (h0 : l ≠ []) (hn : (nextP l).2 ≠ 0) : countFrom m l = countFrom (m + 1) (l.drop (nextP l).2) := by
  simp only [countFrom, allP_step h0 hn]
  cases allP (l.drop (nextP l).2) with
  | none => rfl
  | some cs => simp only [Option.map_some, List.length_cons]; congr 1; omega

/-- May a name have it, there? -/
def okB (c : Int) (first : Bool) : Bool := partB c && (!first || startB c)
/-- How many characters there are, if all may stand in a name. -/
noncomputable def namesFrom (m : Nat) (l : List UInt8) : Int := match allP l with
  | none => -1
  | some cs => if (cs.zipIdx m).all (fun x => okB x.1 (x.2 == 0)) then ((m + cs.length : Nat) : Int) else -1
theorem namesFrom_nil (m : Nat) : namesFrom m [] = (m : Int) := by simp [namesFrom, allP_nil]
theorem namesFrom_bad (m : Nat) {l : List UInt8} (h0 : l ≠ []) (hn : (nextP l).2 = 0) : namesFrom m l = -1 := by simp [namesFrom, allP_bad h0 hn]
theorem namesFrom_no (m : Nat) {l : List UInt8} (h0 : l ≠ []) (hn : (nextP l).2 ≠ 0) (ho : okB (nextP l).1 (m == 0) = false) : namesFrom m l = -1 := by
  simp only [namesFrom, allP_step h0 hn]
  cases allP (l.drop (nextP l).2) with
  | none => rfl
  | some cs => simp only [Option.map_some, List.zipIdx_cons, List.all_cons, ho, Bool.false_and, Bool.false_eq_true, if_false]
theorem namesFrom_step (m : Nat) {l : List UInt8} (h0 : l ≠ []) (hn : (nextP l).2 ≠ 0) (ho : okB (nextP l).1 (m == 0) = true) : namesFrom m l = namesFrom (m + 1) (l.drop (nextP l).2) := by
  simp only [namesFrom, allP_step h0 hn]
  cases allP (l.drop (nextP l).2) with
  | none => rfl
  | some cs =>
    simp only [Option.map_some, List.zipIdx_cons, List.all_cons, ho, Bool.true_and, List.length_cons]
    congr 2
    omega

/-- Is a text a name? -/
noncomputable def nameP (l : List UInt8) : Bool := decide (1 ≤ l.length ∧ l.length ≤ 60) && decide (0 < namesFrom 0 l)

/-- By the document's words: its first character is a Start, all are Parts. -/
theorem zip_all (cs : List Int) : ∀ m, 1 ≤ m → (cs.zipIdx m).all (fun x => okB x.1 (x.2 == 0)) = cs.all partB := by
  induction cs with
  | nil => intro m _; rfl
  | cons c cs ih =>
    intro m hm
    have e : (m == 0) = false := by simp; omega
    rw [List.zipIdx_cons, List.all_cons, List.all_cons, ih (m + 1) (by omega)]
    simp only [e, okB, Bool.not_false, Bool.true_or, Bool.and_true]
theorem namesFrom_zero (c : Int) (cs : List Int) {l : List UInt8} (h : allP l = some (c :: cs)) : (0 < namesFrom 0 l) ↔ (startB c = true ∧ (c :: cs).all partB = true) := by
  simp only [namesFrom, h]
  rw [List.zipIdx_cons, List.all_cons, zip_all cs (0 + 1) (by omega), List.all_cons]
  simp only [okB, beq_self_eq_true, Bool.not_true, Bool.false_or]
  cases hp : partB c <;> cases hs : startB c <;> cases ha : cs.all partB <;> simp
theorem namesFrom_none {l : List UInt8} (h : allP l = none) : ¬ 0 < namesFrom 0 l := by simp [namesFrom, h]
theorem namesFrom_empty {l : List UInt8} (h : allP l = some []) : ¬ 0 < namesFrom 0 l := by simp [namesFrom, h]
theorem allP_ne {l : List UInt8} (h0 : l ≠ []) : allP l ≠ some [] := by
  by_cases hn : (nextP l).2 = 0
  · rw [allP_bad h0 hn]; simp
  · rw [allP_step h0 hn]
    cases allP (l.drop (nextP l).2) <;> simp
end Go.Proofs.Ytoflicfghonhcaa
