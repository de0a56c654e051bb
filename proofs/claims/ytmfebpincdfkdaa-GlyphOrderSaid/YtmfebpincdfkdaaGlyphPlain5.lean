/- THE PLAIN SIDE OF LAYER 1 (glyph): what does not hang on what stands behind. -/
import Derived.Test.YtmfebpincdfkdaaGlyphPlain4
namespace Go.Proofs.Ytmfebpincdfkdaa
open Go.RowKit
theorem nextP_is {l : List UInt8} (h : (nextP l).2 ≠ 0) : ∃ c r, charB c = true ∧ l = putL c ++ r ∧ nextP l = (c, (putL c).length) := by
  rcases nextP_cases l with ⟨c, ⟨hc, r, hl⟩, e⟩ | ⟨_, _, e⟩ | ⟨_, e⟩
  · exact ⟨c, r, hc, hl, e⟩
  · rw [e] at h; exact absurd rfl h
  · rw [e] at h; exact absurd rfl h
theorem nextP_append {l : List UInt8} (h : (nextP l).2 ≠ 0) (m : List UInt8) : nextP (l ++ m) = nextP l := by
  obtain ⟨c, r, hc, hl, e⟩ := nextP_is h
  rw [e]
  exact nextP_yes ⟨hc, r ++ m, by rw [hl, List.append_assoc]⟩
theorem nextP_take {l : List UInt8} (h : (nextP l).2 ≠ 0) : nextP (l.take (nextP l).2) = nextP l := by
  obtain ⟨c, r, hc, hl, e⟩ := nextP_is h
  rw [e]
  show nextP (l.take (putL c).length) = _
  rw [hl, List.take_left]
  exact nextP_yes ⟨hc, [], by simp⟩
theorem nextP_put {c : Int} (h : charB c = true) (m : List UInt8) : nextP (putL c ++ m) = (c, (putL c).length) := nextP_yes ⟨h, m, rfl⟩
theorem nextP_bytes {l : List UInt8} (h : (nextP l).2 ≠ 0) : charB (nextP l).1 = true ∧ putL (nextP l).1 = l.take (nextP l).2 := by
  obtain ⟨c, r, hc, hl, e⟩ := nextP_is h
  rw [e]
  refine ⟨hc, ?_⟩
  show putL c = l.take (putL c).length
  rw [hl, List.take_left]
theorem nextP_zero {l : List UInt8} (h0 : l ≠ []) (h : (nextP l).2 = 0) : (nextP l).1 = -1 := by
  rcases nextP_cases l with ⟨c, _, e⟩ | ⟨_, _, e⟩ | ⟨h1, e⟩
  · rw [e] at h; have := putL_pos c; simp only at h; omega
  · rw [e]
  · exact absurd h1 h0
theorem allP_append : ∀ (k : Nat) (a b : List UInt8), a.length ≤ k → ∀ cs, allP a = some cs → allP (a ++ b) = (allP b).map (cs ++ ·) := by
  intro k
  induction k with
  | zero =>
    intro a b h cs hc
    have : a = [] := List.eq_nil_of_length_eq_zero (by omega)
    subst this
    rw [allP_nil] at hc
    cases hc
    simp
  | succ k ih =>
    intro a b h cs hc
    by_cases h0 : a = []
    · subst h0
      rw [allP_nil] at hc
      cases hc
      simp
    by_cases hn : (nextP a).2 = 0
    · rw [allP_bad h0 hn] at hc; cases hc
    · have hle := nextP_le a
      rw [allP_step h0 hn] at hc
      cases hd : allP (a.drop (nextP a).2) with
      | none => rw [hd] at hc; cases hc
      | some ds =>
        rw [hd] at hc
        cases hc
        have e := nextP_append hn b
        rw [allP_step (by simp [h0]) (by rw [e]; exact hn), e, List.drop_append_of_le_length hle, ih _ b (by rw [List.length_drop]; omega) ds hd]
        cases allP b <;> simp
theorem countP_append {a b : List UInt8} (ha : 0 ≤ countP a) (hb : 0 ≤ countP b) : countP (a ++ b) = countP a + countP b := by
  cases h1 : allP a with
  | none => simp [countP, countFrom, h1] at ha
  | some cs =>
    cases h2 : allP b with
    | none => simp [countP, countFrom, h2] at hb
    | some ds =>
      have := allP_append _ a b (Nat.le_refl _) cs h1
      simp [countP, countFrom, h1, h2, this]
theorem countP_bd (l : List UInt8) : -1 ≤ countP l ∧ countP l ≤ l.length := by
  unfold countP countFrom
  cases h : allP l with
  | none => simp
  | some cs =>
    have := allP_len _ l (Nat.le_refl _) cs h
    simp only
    omega
end Go.Proofs.Ytmfebpincdfkdaa
