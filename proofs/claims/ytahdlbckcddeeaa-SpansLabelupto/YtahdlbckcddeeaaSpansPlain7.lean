/- THE PLAIN SIDE OF LAYER 14 (spans): the program's Check is the document's. -/
import Derived.Test.YtahdlbckcddeeaaSpansPlain6
import Derived.Test.YtahdlbckcddeeaaSpansP
namespace Go.Proofs.Ytahdlbckcddeeaa
open Go.RowKit
set_option linter.unusedVariables false
theorem least {p : Nat → Prop} : ∀ n, p n → ∃ n, p n ∧ ∀ m, m < n → ¬ p m := by
  intro n
  induction n using Nat.strongRecOn with
  | ind n ih =>
    intro hn
    by_cases h : ∃ m, m < n ∧ p m
    · obtain ⟨m, hm, hp⟩ := h
      exact ih m hm hp
    · exact ⟨n, hn, fun m hm hp => h ⟨m, hm, hp⟩⟩
def lvL (L : List Item) (k : Nat) : Int := (L.getD k default).level
theorem endFrom_spec (L : List Item) (i : Nat) : ∀ (m n : Nat), (∀ j, n ≤ j → j < endFrom L i m n → lvL L i < lvL L j) ∧ endFrom L i m n ≤ n + m ∧ n ≤ endFrom L i m n ∧ (endFrom L i m n < n + m → lvL L (endFrom L i m n) ≤ lvL L i)
  | 0, n => ⟨fun j h1 h2 => by unfold endFrom at h2; omega, by unfold endFrom; omega, by unfold endFrom; omega, fun h => by unfold endFrom at h; omega⟩
  | m + 1, n => by
    unfold endFrom
    by_cases hc : (L.getD n default).level ≤ (L.getD i default).level
    · rw [if_pos hc]
      exact ⟨fun j h1 h2 => by omega, by omega, by omega, fun _ => hc⟩
    · rw [if_neg hc]
      obtain ⟨h1, h2, h3, h4⟩ := endFrom_spec L i m (n + 1)
      refine ⟨fun j hj1 hj2 => ?_, by omega, by omega, fun h => h4 (by omega)⟩
      by_cases hj : j = n
      · subst hj; unfold lvL; omega
      · exact h1 j (by omega) hj2
/-- Number k lies in number i just if all from i on, up to k, lie deeper. -/
theorem end_iff (L : List Item) (i k : Nat) (hik : i < k) (hk : k < L.length) : k < endP L i ↔ ∀ j, i < j → j ≤ k → lvL L i < lvL L j := by
  unfold endP
  obtain ⟨h1, h2, h3, h4⟩ := endFrom_spec L i (L.length - (i + 1)) (i + 1)
  constructor
  · intro h j hj1 hj2
    exact h1 j (by omega) (by omega)
  · intro h
    rcases Nat.lt_or_ge k (endFrom L i (L.length - (i + 1)) (i + 1)) with hlt | hge
    · exact hlt
    · have h5 := h4 (by omega)
      have h6 := h _ (show i < endFrom L i (L.length - (i + 1)) (i + 1) by omega) hge
      omega
theorem filter_len_le {α : Type} (p q : α → Bool) (l : List α) (h : ∀ x ∈ l, p x = true → q x = true) : (l.filter p).length ≤ (l.filter q).length := by
  induction l with
  | nil => simp
  | cons a r ih =>
    have ih' := ih (fun x hx => h x (List.mem_cons_of_mem _ hx))
    cases hp : p a with
    | true =>
      have hq := h a (by simp) hp
      rw [List.filter_cons_of_pos hp, List.filter_cons_of_pos hq]
      simp; omega
    | false =>
      rw [List.filter_cons_of_neg (by simp [hp])]
      cases hq : q a with
      | true => rw [List.filter_cons_of_pos hq]; simp; omega
      | false => rw [List.filter_cons_of_neg (by simp [hq])]; exact ih'
/-- What is counted up to k, all being below i. -/
theorem cnt_upto (p : Nat → Bool) (i k : Nat) (hik : i ≤ k) (h : ∀ a, i ≤ a → a < k → p a = false) : ((List.range k).filter p).length = ((List.range i).filter p).length := by
  obtain ⟨d, rfl⟩ : ∃ d, k = i + d := ⟨k - i, by omega⟩
  induction d with
  | zero => rfl
  | succ d ih =>
    rw [← Nat.add_assoc, List.range_succ, List.filter_append, List.length_append, ih (by omega) (fun a h1 h2 => h a h1 (by omega)), List.filter_cons_of_neg (by rw [h (i + d) (by omega) (by omega)]; simp)]
    simp
theorem cnt_mono (p : Nat → Bool) (i k : Nat) (hik : i ≤ k) : ((List.range i).filter p).length ≤ ((List.range k).filter p).length := by
  obtain ⟨d, rfl⟩ : ∃ d, k = i + d := ⟨k - i, by omega⟩
  rw [List.range_add, List.filter_append, List.length_append]
  omega
theorem span_lt {s : List (Int × Int)} {k : Nat} (h : refOk s k = true) : (gS s k).1 < (gS s k).2 := by
  have hh : headOk s k = true := by
    cases hc : headOk s k with
    | true => rfl
    | false => rw [refOk_head s k hc] at h; cases h
  exact ((head_iff s k).1 hh).2
/-- What lies in another one is deeper. -/
theorem cnt_deeper {s : List (Int × Int)} {i j : Nat} (hi : refOk s i = true) (hj : refOk s j = true) (hij : i < j) (hin : inB (gS s j) (gS s i) = true) : cntTo s i i < cntTo s j j := by
  have h1 : cntTo s i i ≤ cntTo s j i := filter_len_le _ _ _ fun a ha hp => by
    have a1 := (in_iff _ _).1 hp
    have a2 := (in_iff _ _).1 hin
    exact (in_iff _ _).2 ⟨by show (gS s a).1 < (gS s j).1; have : (gS s a).1 < (gS s i).1 := a1.1; omega, by show (gS s j).2 < (gS s a).2; have : (gS s i).2 < (gS s a).2 := a1.2; omega⟩
  have h2 : cntTo s j (i + 1) ≤ cntTo s j j := cnt_mono _ (i + 1) j (by omega)
  have h3 := cntTo_succ s j i
  have e : inB (s.getD j default) (s.getD i default) = true := hin
  rw [e, if_pos rfl] at h3
  omega
/-- Which one lies in which is said by the levels. -/
theorem in_levels {s : List (Int × Int)} {n : Nat} (h : ∀ k, k < n → refOk s k = true) {i k : Nat} (hik : i < k) (hk : k < n) : inB (gS s k) (gS s i) = true ↔ ∀ j, i < j → j ≤ k → cntTo s i i < cntTo s j j := by
  constructor
  · intro hin j hj1 hj2
    by_cases hjk : j = k
    · subst hjk; exact cnt_deeper (h i (by omega)) (h j hk) hik hin
    · rcases (refOk_pairs (h j (by omega)) hj1).2 with h1 | h1
      · exact cnt_deeper (h i (by omega)) (h j (by omega)) hj1 h1
      · exfalso
        have a1 := (ahead_iff _ _).1 h1
        have a2 := (in_iff _ _).1 hin
        have a3 := (refOk_pairs (h k hk) (show j < k by omega)).1
        have a4 := span_lt (h k hk)
        omega
  · intro hall
    cases hin : inB (gS s k) (gS s i) with
    | true => rfl
    | false =>
      exfalso
      -- the first one behind i that does not lie in it
      have hx : i < k ∧ k ≤ k ∧ aheadB (gS s i) (gS s k) = true := ⟨hik, Nat.le_refl _, by
        rcases (refOk_pairs (h k hk) hik).2 with h1 | h1
        · rw [h1] at hin; cases hin
        · exact h1⟩
      obtain ⟨j, ⟨hj1, hj2, hj3⟩, hmin⟩ := least (p := fun j => i < j ∧ j ≤ k ∧ aheadB (gS s i) (gS s j) = true) k hx
      have b1 := (ahead_iff _ _).1 hj3
      have b2 := span_lt (h j (by omega))
      have hle : cntTo s j j ≤ cntTo s i i := by
        have e1 : cntTo s j j = cntTo s j i := cnt_upto _ i j (by omega) fun a ha1 ha2 => by
          cases hp : inB (s.getD j default) (s.getD a default) with
          | false => rfl
          | true =>
            exfalso
            have c1 := (in_iff (gS s j) (gS s a)).1 hp
            by_cases hai : a = i
            · subst hai; omega
            · rcases (refOk_pairs (h a (by omega)) (show i < a by omega)).2 with h1 | h1
              · have c2 := (in_iff _ _).1 h1
                omega
              · exact hmin a ha2 ⟨by omega, by omega, h1⟩
        rw [e1]
        exact filter_len_le _ _ _ fun a ha hp => by
          rw [List.mem_range] at ha
          have c1 := (in_iff (gS s j) (gS s a)).1 hp
          rcases (refOk_pairs (h i (by omega)) ha).2 with h1 | h1
          · exact h1
          · exfalso
            have c2 := (ahead_iff _ _).1 h1
            have c3 := (refOk_pairs (h j (by omega)) hj1).1
            omega
      have := hall j hj1 hj2
      omega
/-- The levels' own counting: number k has as many around it as its level says. -/
theorem around {L : List Item} (h : (checkP L).2 = 0) (k : Nat) (hk : k < L.length) : (((List.range k).filter (fun i => decide (k < endP L i))).length : Int) = lvL L k := by
  have hlv := label_levels h
  have hl := labelP_len L
  generalize labelP L = s at *
  have hok : ∀ k, k < L.length → refOk s k = true := fun k hk => by
    cases hr : refOk s k with
    | true => rfl
    | false => rw [refLevels_no s k (by omega) hr] at hlv; cases hlv
  rw [refLevels_yes s (by rw [hl]; exact hok), hl, Option.some.injEq] at hlv
  have hc : ∀ j, j < L.length → (cntTo s j j : Int) = lvL L j := fun j hj => by
    have := congrArg (fun l => l.getD j 0) hlv
    simpa [List.getD_eq_getElem?_getD, hj, lvL] using this
  rw [← hc k hk]
  congr 1
  unfold cntTo
  congr 1
  refine List.filter_congr fun i hi => ?_
  rw [List.mem_range] at hi
  have e1 := in_levels hok hi hk
  have e2 := end_iff L i k hi hk
  have e3 : inB (gS s k) (gS s i) = true ↔ k < endP L i := by
    rw [e1, e2]
    constructor
    · intro hh j hj1 hj2
      have := hh j hj1 hj2
      rw [← hc i (by omega), ← hc j (by omega)]
      omega
    · intro hh j hj1 hj2
      have := hh j hj1 hj2
      rw [← hc i (by omega), ← hc j (by omega)] at this
      omega
  show decide (k < endP L i) = inB (gS s k) (gS s i)
  rw [Bool.eq_iff_iff, e3, decide_eq_true_eq]
theorem check_eq (L : List Item) (s : List (Int × Int)) : checkSB L s = rcheckSB L s := by
  by_cases hz : (checkP L).2 = 0
  case neg => rw [checkSB_err hz, rcheckSB_err hz]
  by_cases hok : ∀ k, k < s.length → refOk s k = true
  · have hlv := refLevels_yes s hok
    by_cases hl : s.length = L.length
    case neg => rw [checkSB_len hlv (by simpa using hl), rcheckSB_len hl]
    have hokL : ∀ k, k < L.length → refOk s k = true := fun k hk => hok k (by omega)
    have hhead : ∀ k, k < L.length → headOk s k = true := fun k hk => by
      cases hc : headOk s k with
      | true => rfl
      | false => have := hokL k hk; rw [refOk_head s k hc] at this; cases this
    by_cases hall : ∀ k, k < L.length → (cntTo s k k : Int) = lvL L k
    · rw [checkSB_yes hlv hz (by simpa using hl) (fun k hk => by
        have := hall k hk
        simpa [List.getD_eq_getElem?_getD, show k < s.length by omega, lvL] using this)]
      symm
      refine rcheckSB_yes ⟨hz, hl⟩ fun k hk => rRow_yes L s k (hhead k hk) ?_ fun i hi => ?_
      · rcases Nat.eq_zero_or_pos k with h0 | h0
        · exact .inl h0
        · exact .inr (refOk_pairs (hokL k hk) (show k - 1 < k by omega)).1
      · have e1 := in_levels hokL hi hk
        have e2 := end_iff L i k hi hk
        have e3 : decide (k < endP L i) = inB (gS s k) (gS s i) := by
          rw [Bool.eq_iff_iff, decide_eq_true_eq, e1, e2]
          constructor
          · intro hh j hj1 hj2
            have := hh j hj1 hj2
            rw [← hall i (by omega), ← hall j (by omega)] at this
            omega
          · intro hh j hj1 hj2
            have := hh j hj1 hj2
            rw [← hall i (by omega), ← hall j (by omega)]
            omega
        show ((decide (k < endP L i) == inB (gS s k) (gS s i)) && (inB (gS s k) (gS s i) || aheadB (gS s i) (gS s k))) = true
        rw [e3, beq_self_eq_true, Bool.true_and, Bool.or_eq_true]
        exact (refOk_pairs (hokL k hk) hi).2
    · obtain ⟨k, hk, hne⟩ : ∃ k, k < L.length ∧ ¬ (cntTo s k k : Int) = lvL L k := by
        apply Classical.byContradiction
        intro hc
        exact hall fun k hk => Classical.byContradiction fun hn => hc ⟨k, hk, hn⟩
      rw [checkSB_ne hlv k hk (by simpa [List.getD_eq_getElem?_getD, show k < s.length by omega, lvL] using hne)]
      symm
      apply rcheckSB_no ⟨hz, hl⟩ k hk
      cases hr : rRow L s k with
      | false => rfl
      | true =>
        exfalso
        apply hne
        rw [← around hz k hk]
        congr 1
        unfold cntTo
        congr 1
        refine List.filter_congr fun i hi => ?_
        rw [List.mem_range] at hi
        unfold rRow at hr
        rw [Bool.and_eq_true, List.all_eq_true] at hr
        have := hr.2 i (List.mem_range.2 hi)
        unfold rPair at this
        rw [Bool.and_eq_true, beq_iff_eq] at this
        exact this.1.symm
  · obtain ⟨k, hk, hne⟩ : ∃ k, k < s.length ∧ refOk s k = false := by
      apply Classical.byContradiction
      intro hc
      exact hok fun k hk => by
        cases hr : refOk s k with
        | true => rfl
        | false => exact absurd ⟨k, hk, hr⟩ hc
    rw [checkSB_none (refLevels_no s k hk hne)]
    symm
    by_cases hl : s.length = L.length
    case neg => exact rcheckSB_len hl
    -- else all rows hold, and so would the document's words on the spans
    cases hr : rcheckSB L s with
    | false => rfl
    | true =>
      exfalso
      unfold rcheckSB at hr
      rw [Bool.and_eq_true, List.all_eq_true] at hr
      have hrow : ∀ j, j < L.length → rRow L s j = true := fun j hj => hr.2 j (List.mem_range.2 hj)
      have hh : ∀ j, j < L.length → headOk s j = true ∧ (j = 0 ∨ (gS s (j - 1)).1 < (gS s j).1) ∧ ∀ i, i < j → rPair L s j i = true := fun j hj => by
        have := hrow j hj
        unfold rRow rHead at this
        rw [Bool.and_eq_true, Bool.and_eq_true, decide_eq_true_eq, List.all_eq_true] at this
        exact ⟨this.1.1, this.1.2, fun i hi => this.2 i (List.mem_range.2 hi)⟩
      have hmono : ∀ d i, i + d < L.length → 0 < d → (gS s i).1 < (gS s (i + d)).1 := fun d => by
        induction d with
        | zero => intro i _ h0; omega
        | succ d ih =>
          intro i hi _
          have h1 := (hh (i + d + 1) (by omega)).2.1
          rcases h1 with h1 | h1
          · omega
          · rw [Nat.add_sub_cancel] at h1
            rcases Nat.eq_zero_or_pos d with h0 | h0
            · subst h0; exact h1
            · have := ih i (by omega) h0
              rw [← Nat.add_assoc]
              omega
      have : refOk s k = true := by
        refine refOk_yes s k (hh k (by omega)).1 fun i hi => ?_
        have h1 := (hh k (by omega)).2.2 i hi
        unfold rPair at h1
        rw [Bool.and_eq_true] at h1
        unfold pairOk
        rw [h1.2, Bool.and_true]
        have h2 := hmono (k - i) i (by omega) (by omega)
        rw [show i + (k - i) = k by omega] at h2
        exact decide_eq_true h2
      rw [this] at hne
      cases hne
end Go.Proofs.Ytahdlbckcddeeaa
