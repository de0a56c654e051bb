/- PLAIN LAW OF LAYER 13 (tabula): rows by what is in them; keys put one after another. -/
import Derived.Test.YtdgapagpmdfndaaTabX
namespace Go.Proofs.Ytdgapagpmdfndaa
set_option linter.unusedVariables false
theorem mem_insL {l : List Row} {k v : Int} {x : Row} : x ∈ insL l k v ↔ x = (k, v) ∨ (x ∈ l ∧ x.1 ≠ k) := by
  unfold insL
  simp only [List.mem_append, List.mem_filter, List.mem_cons, decide_eq_true_eq]
  constructor
  · rintro (⟨h1, h2⟩ | rfl | ⟨h1, h2⟩)
    · exact .inr ⟨h1, by omega⟩
    · exact .inl rfl
    · exact .inr ⟨h1, by omega⟩
  · rintro (rfl | ⟨h1, h2⟩)
    · exact .inr (.inl rfl)
    · rcases Int.lt_or_gt_of_ne h2 with h | h
      · exact .inl ⟨h1, h⟩
      · exact .inr (.inr ⟨h1, h⟩)
theorem mem_delL {l : List Row} {k : Int} {x : Row} : x ∈ delL l k ↔ x ∈ l ∧ x.1 ≠ k := by
  unfold delL
  simp only [List.mem_filter, decide_eq_true_eq]
theorem getL_none_iff {l : List Row} {k : Int} : getL l k = none ↔ ∀ x ∈ l, x.1 ≠ k := by
  unfold getL
  simp [List.find?_eq_none]
/-- Rows in order are told by what is in them. -/
theorem sorted_ext : ∀ {l m : List Row}, Sorted l → Sorted m → (∀ x, x ∈ l ↔ x ∈ m) → l = m
  | [], m, _, _, h => by
    cases m with
    | nil => rfl
    | cons y r => exact absurd ((h y).2 List.mem_cons_self) (by simp)
  | x :: r, [], _, _, h => absurd ((h x).1 List.mem_cons_self) (by simp)
  | x :: r, y :: s, hl, hm, h => by
    obtain ⟨h1, h2⟩ := List.pairwise_cons.1 hl
    obtain ⟨h3, h4⟩ := List.pairwise_cons.1 hm
    have hxy : x = y := by
      rcases List.mem_cons.1 ((h x).1 List.mem_cons_self) with e | e
      · exact e
      · rcases List.mem_cons.1 ((h y).2 List.mem_cons_self) with e2 | e2
        · exact e2.symm
        · have := h3 x e
          have := h1 y e2
          omega
    subst hxy
    rw [sorted_ext h2 h4 fun z => ?_]
    constructor
    · intro hz
      rcases List.mem_cons.1 ((h z).1 (List.mem_cons_of_mem _ hz)) with rfl | e
      · have := h1 _ hz; omega
      · exact e
    · intro hz
      rcases List.mem_cons.1 ((h z).2 (List.mem_cons_of_mem _ hz)) with rfl | e
      · have := h3 _ hz; omega
      · exact e
theorem getL_mem {l : List Row} (hs : Sorted l) {x : Row} (hx : x ∈ l) : getL l x.1 = some x.2 := by
  obtain ⟨y, hy, ey⟩ : ∃ y ∈ l, getL l x.1 = some y.2 ∧ y.1 = x.1 := by
    unfold getL
    cases hf : l.find? (fun y => decide (y.1 = x.1)) with
    | none => have := List.find?_eq_none.1 hf x hx; simp at this
    | some y => exact ⟨y, List.mem_of_find?_eq_some hf, rfl, by simpa using List.find?_some hf⟩
  obtain ⟨i, hi, rfl⟩ := mem_getD hx
  obtain ⟨j, hj, rfl⟩ := mem_getD hy
  rcases Nat.lt_trichotomy i j with h | h | h
  · have := sorted_get hs h hj; omega
  · rw [← h] at ey; exact ey.1
  · have := sorted_get hs h hi; omega
/-- What is put where nothing was, and deleted, leaves all as it was. -/
theorem del_ins {l : List Row} (hs : Sorted l) {k : Int} (h : getL l k = none) (v : Int) : delL (insL l k v) k = l := by
  refine sorted_ext (delL_sorted (insL_sorted hs k v) k) hs fun x => ?_
  rw [mem_delL, mem_insL]
  have hn := getL_none_iff.1 h x
  constructor
  · rintro ⟨rfl | ⟨h1, _⟩, h2⟩
    · exact absurd rfl h2
    · exact h1
  · intro h1
    exact ⟨.inr ⟨h1, hn h1⟩, hn h1⟩
/-- Keys put one after another, with one value. -/
def kput (v : Int) (a : List Row) (ks : List Int) : List Row := ks.foldl (fun a k => insL a k v) a
theorem kput_snoc (v : Int) (a : List Row) (ks : List Int) (k : Int) : kput v a (ks ++ [k]) = insL (kput v a ks) k v := by simp [kput]
theorem kput_sorted (v : Int) : ∀ (ks : List Int) {a : List Row}, Sorted a → Sorted (kput v a ks)
  | [], a, h => h
  | k :: ks, a, h => kput_sorted v ks (insL_sorted h k v)
theorem kput_len (v : Int) : ∀ (ks : List Int) {a : List Row}, Sorted a → (kput v a ks).length ≤ a.length + ks.length
  | [], a, h => Nat.le_refl _
  | k :: ks, a, h => by
    have h1 := kput_len v ks (insL_sorted h k v)
    have h2 := (insL_len h k v).2
    have : kput v a (k :: ks) = kput v (insL a k v) ks := rfl
    rw [this, List.length_cons]
    omega
theorem mem_kput {v : Int} {x : Row} : ∀ {ks : List Int} {a : List Row}, x ∈ kput v a ks ↔ (x.2 = v ∧ x.1 ∈ ks) ∨ (x ∈ a ∧ x.1 ∉ ks)
  | [], a => by simp [kput]
  | k :: ks, a => by
    have e : kput v a (k :: ks) = kput v (insL a k v) ks := rfl
    rw [e, mem_kput, mem_insL]
    obtain ⟨x1, x2⟩ := x
    simp only [List.mem_cons, Prod.mk.injEq, not_or]
    constructor
    · rintro (⟨h1, h2⟩ | ⟨⟨h1, h2⟩ | ⟨h1, h2⟩, h3⟩)
      · exact .inl ⟨h1, .inr h2⟩
      · exact .inl ⟨h2, .inl h1⟩
      · exact .inr ⟨h1, h2, h3⟩
    · rintro (⟨h1, h2 | h2⟩ | ⟨h1, h2, h3⟩)
      · by_cases h : x1 ∈ ks
        · exact .inl ⟨h1, h⟩
        · exact .inr ⟨.inl ⟨h2, h1⟩, h⟩
      · exact .inl ⟨h1, h2⟩
      · exact .inr ⟨.inr ⟨h1, h2⟩, h3⟩
/-- In which order keys were put is not seen. -/
theorem kput_rev (v : Int) (ks : List Int) : kput v [] ks.reverse = kput v [] ks :=
  sorted_ext (kput_sorted v _ List.Pairwise.nil) (kput_sorted v _ List.Pairwise.nil) fun x => by
    rw [mem_kput, mem_kput]; simp
end Go.Proofs.Ytdgapagpmdfndaa
