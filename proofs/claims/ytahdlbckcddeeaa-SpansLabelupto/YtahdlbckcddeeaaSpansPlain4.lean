/- THE PLAIN SIDE OF LAYER 14 (spans): the spans that Label gives lie as the items do. -/
import Derived.Test.YtahdlbckcddeeaaSpansPlain3
import Derived.Test.YtahdlbckcddeeaaSpansPlainG
namespace Go.Proofs.Ytahdlbckcddeeaa
open Go.RowKit
def fr (s : LSt) (i : Nat) : Int := (s.out.getD i default).1
def to' (s : LSt) (i : Nat) : Int := (s.out.getD i default).2
/-- Does j lie in i, or will it? -/
def insB (s : LSt) (i j : Nat) : Bool := decide (i ∈ s.opn) || (!decide (j ∈ s.opn) && decide (to' s j < to' s i))
def lvN (L : List Item) (k : Nat) : Nat := (L.getD k default).level.toNat
structure LInv (L : List Item) (k : Nat) (s : LSt) : Prop where
  len : k ≤ s.out.length
  mem : ∀ i, i ∈ s.opn → i < k
  sorted : s.opn.Pairwise (fun a b => a < b)
  pos : 0 ≤ s.at_
  from_pos : ∀ i, i < k → 0 < fr s i ∧ fr s i ≤ s.at_
  from_lt : ∀ i j, i < j → j < k → fr s i < fr s j
  closed : ∀ i, i < k → i ∉ s.opn → fr s i < to' s i ∧ to' s i ≤ s.at_
  apart : ∀ i j, i < j → j < k → i ∉ s.opn → j ∈ s.opn → to' s i < fr s j
  pair : ∀ i j, i < j → j < k → i ∉ s.opn → j ∉ s.opn → to' s j < to' s i ∨ to' s i < fr s j
  cnt : ∀ j, j < k → ((List.range j).filter (fun i => insB s i j)).length = lvN L j
theorem setTo_at (l : List (Int × Int)) (i : Nat) (v : Int) (h : i < l.length) (j : Nat) : (setTo l i v).getD j default = if j = i then ((l.getD i default).1, v) else l.getD j default := by
  unfold setTo
  simp only [List.getD_eq_getElem?_getD, List.getElem?_set]
  by_cases hj : j = i
  · subst hj; simp [h]
  · rw [if_neg (fun e => hj e.symm), if_neg hj]
theorem setFrom_at (l : List (Int × Int)) (i : Nat) (v : Int) (h : i < l.length) (j : Nat) : (setFrom l i v).getD j default = if j = i then (v, (l.getD i default).2) else l.getD j default := by
  unfold setFrom
  simp only [List.getD_eq_getElem?_getD, List.getElem?_set]
  by_cases hj : j = i
  · subst hj; simp [h]
  · rw [if_neg (fun e => hj e.symm), if_neg hj]
theorem shut1_inv {L : List Item} {k : Nat} {s : LSt} (h : LInv L k s) (hn : 0 < s.opn.length) : LInv L k (shut1 s) := by
  obtain ⟨o, t, ho⟩ : ∃ o t, s.opn = o ++ [t] := by
    rcases List.eq_nil_or_concat s.opn with h0 | ⟨o, t, h0⟩
    · rw [h0] at hn; exact absurd hn (by simp)
    · exact ⟨o, t, by rw [h0, List.concat_eq_append]⟩
  have hl : s.opn.getLastD 0 = t := by rw [ho]; simp [List.getLastD_eq_getLast?]
  have hd : s.opn.dropLast = o := by rw [ho]; simp
  have hs := h.sorted
  rw [ho] at hs
  have hlt : ∀ i, i ∈ o → i < t := fun i hi => (List.pairwise_append.1 hs).2.2 i hi t (by simp)
  have htk : t < k := h.mem t (by rw [ho]; simp)
  have hlen := h.len
  have e : shut1 s = ⟨setTo s.out t (s.at_ + gapI), o, s.at_ + gapI⟩ := by unfold shut1; rw [hl, hd]
  have hm : ∀ i, i ∈ s.opn ↔ i ∈ o ∨ i = t := fun i => by rw [ho]; simp
  have hto : t ∉ o := fun hc => by have := hlt t hc; omega
  have hF : ∀ i, fr (shut1 s) i = fr s i := fun i => by
    rw [e]; unfold fr
    dsimp only
    rw [setTo_at _ _ _ (by omega)]
    by_cases hi : i = t
    · subst hi; rw [if_pos rfl]
    · rw [if_neg hi]
  have hT : ∀ i, i ≠ t → to' (shut1 s) i = to' s i := fun i hi => by
    rw [e]; unfold to'
    dsimp only
    rw [setTo_at _ _ _ (by omega), if_neg hi]
  have hTt : to' (shut1 s) t = s.at_ + gapI := by
    rw [e]; unfold to'
    dsimp only
    rw [setTo_at _ _ _ (by omega), if_pos rfl]
  have hop : (shut1 s).opn = o := by rw [e]
  have hat : (shut1 s).at_ = s.at_ + gapI := by rw [e]
  have hg : gapI = 1099511627776 := rfl
  have p0 := h.pos
  have hnot : ∀ i, i ∉ (shut1 s).opn → i ≠ t → i ∉ s.opn := fun i h1 h2 h3 => by
    rw [hop] at h1
    rcases (hm i).1 h3 with h4 | h4
    · exact h1 h4
    · exact h2 h4
  have htS : t ∈ s.opn := (hm t).2 (.inr rfl)
  have hltt : ∀ i, i ∈ s.opn → i ≤ t := fun i hi => by
    rcases (hm i).1 hi with h4 | h4
    · have := hlt i h4; omega
    · omega
  refine ⟨by rw [e]; dsimp only; rw [setTo_len]; exact hlen, fun i hi => h.mem i ((hm i).2 (.inl (by rw [hop] at hi; exact hi))), by rw [hop]; exact (List.pairwise_append.1 hs).1, by rw [hat]; omega, ?_, ?_, ?_, ?_, ?_, ?_⟩
  · intro i hi
    rw [hF, hat]
    have := h.from_pos i hi
    omega
  · intro i j hij hj
    rw [hF, hF]
    exact h.from_lt i j hij hj
  · intro i hi hno
    rw [hF, hat]
    by_cases hit : i = t
    · subst hit
      rw [hTt]
      have := h.from_pos i hi
      omega
    · rw [hT i hit]
      have := h.closed i hi (hnot i hno hit)
      omega
  · intro i j hij hj hi hjo
    have hjo' : j ∈ o := by rw [hop] at hjo; exact hjo
    have := hlt j hjo'
    rw [hT i (by omega), hF]
    exact h.apart i j hij hj (hnot i hi (by omega)) ((hm j).2 (.inl hjo'))
  · intro i j hij hj hi hjo
    by_cases hit : i = t
    · subst hit
      left
      rw [hTt, hT j (by omega)]
      have := h.closed j hj (hnot j hjo (by omega))
      omega
    · by_cases hjt : j = t
      · subst hjt
        right
        rw [hT i hit, hF]
        exact h.apart i j hij hj (hnot i hi hit) htS
      · rw [hT i hit, hT j hjt, hF]
        exact h.pair i j hij hj (hnot i hi hit) (hnot j hjo hjt)
  · intro j hj
    rw [← h.cnt j hj]
    congr 1
    refine List.filter_congr fun i hi => ?_
    rw [List.mem_range] at hi
    unfold insB
    rw [hop]
    by_cases hit : i = t
    · subst hit
      have hjo : j ∉ o := fun hc => by have := hlt j hc; omega
      have hjs : j ∉ s.opn := fun hc => by have := hltt j hc; omega
      rw [hTt, hT j (by omega), decide_eq_false hto, decide_eq_false hjo, decide_eq_true htS]
      have := h.closed j hj hjs
      rw [decide_eq_true (by omega)]
      rfl
    · have hio : i ∈ o ↔ i ∈ s.opn := by rw [hm]; simp [hit]
      rw [hT i hit, decide_eq_decide.2 hio]
      by_cases hjt : j = t
      · subst hjt
        rw [hTt, decide_eq_false hto, decide_eq_true htS]
        cases hc : decide (i ∈ s.opn) with
        | true => rfl
        | false =>
          have hni : i ∉ s.opn := by simpa using hc
          have := h.closed i (by omega) hni
          rw [decide_eq_false (by omega)]
          rfl
      · have hjo : j ∈ o ↔ j ∈ s.opn := by rw [hm]; simp [hjt]
        rw [hT j hjt, decide_eq_decide.2 hjo]
theorem shutN_inv {L : List Item} {k : Nat} : ∀ (n : Nat) {s : LSt}, LInv L k s → n ≤ s.opn.length → LInv L k (shutN n s)
  | 0, s, h, _ => h
  | n + 1, s, h, hn => by
    rw [shutN]
    refine shutN_inv n (shut1_inv h (by omega)) ?_
    unfold shut1
    simp
    omega
theorem shutP_inv {L : List Item} {k : Nat} (lv : Nat) {s : LSt} (h : LInv L k s) : LInv L k (shutP lv s) := shutN_inv _ h (by omega)
theorem push_inv {L : List Item} {k : Nat} {s : LSt} (h : LInv L k s) (hk : k < s.out.length) (hl : s.opn.length = lvN L k) : LInv L (k + 1) ⟨setFrom s.out k (s.at_ + gapI), s.opn ++ [k], s.at_ + gapI⟩ := by
  have hg : gapI = 1099511627776 := rfl
  have p0 := h.pos
  have hF : ∀ i, i ≠ k → fr ⟨setFrom s.out k (s.at_ + gapI), s.opn ++ [k], s.at_ + gapI⟩ i = fr s i := fun i hi => by
    unfold fr; dsimp only
    rw [setFrom_at _ _ _ hk, if_neg hi]
  have hFk : fr ⟨setFrom s.out k (s.at_ + gapI), s.opn ++ [k], s.at_ + gapI⟩ k = s.at_ + gapI := by
    unfold fr; dsimp only
    rw [setFrom_at _ _ _ hk, if_pos rfl]
  have hT : ∀ i, to' ⟨setFrom s.out k (s.at_ + gapI), s.opn ++ [k], s.at_ + gapI⟩ i = to' s i := fun i => by
    unfold to'; dsimp only
    rw [setFrom_at _ _ _ hk]
    by_cases hi : i = k
    · subst hi; rw [if_pos rfl]
    · rw [if_neg hi]
  have hm : ∀ i, i ∈ s.opn ++ [k] ↔ i ∈ s.opn ∨ i = k := fun i => by simp
  have hkn : k ∉ s.opn := fun hc => by have := h.mem k hc; omega
  refine ⟨by dsimp only; rw [setFrom_len]; omega, fun i hi => ?_, ?_, by dsimp only; omega, fun i hi => ?_, fun i j hij hj => ?_, fun i hi hno => ?_, fun i j hij hj hi hjo => ?_, fun i j hij hj hi hjo => ?_, fun j hj => ?_⟩
  · rcases (hm i).1 hi with h1 | h1
    · have := h.mem i h1; omega
    · omega
  · dsimp only
    rw [List.pairwise_append]
    refine ⟨h.sorted, by simp, fun a ha b hb => ?_⟩
    have := h.mem a ha
    rw [List.mem_singleton] at hb
    omega
  · by_cases hik : i = k
    · subst hik; rw [hFk]; dsimp only; omega
    · rw [hF i hik]; dsimp only
      have := h.from_pos i (by omega); omega
  · by_cases hjk : j = k
    · subst hjk
      rw [hFk, hF i (by omega)]
      have := h.from_pos i (by omega); omega
    · rw [hF i (by omega), hF j hjk]
      exact h.from_lt i j hij (by omega)
  · have h1 : i ≠ k := fun hc => hno ((hm i).2 (.inr hc))
    have h2 : i ∉ s.opn := fun hc => hno ((hm i).2 (.inl hc))
    rw [hF i h1, hT]
    dsimp only
    have := h.closed i (by omega) h2
    omega
  · have h1 : i ≠ k := fun hc => hi ((hm i).2 (.inr hc))
    have h2 : i ∉ s.opn := fun hc => hi ((hm i).2 (.inl hc))
    rw [hT]
    by_cases hjk : j = k
    · subst hjk
      rw [hFk]
      have := h.closed i (by omega) h2
      omega
    · rw [hF j hjk]
      rcases (hm j).1 hjo with h3 | h3
      · exact h.apart i j hij (by omega) h2 h3
      · exact absurd h3 hjk
  · have h1 : i ≠ k := fun hc => hi ((hm i).2 (.inr hc))
    have h2 : i ∉ s.opn := fun hc => hi ((hm i).2 (.inl hc))
    have h3 : j ≠ k := fun hc => hjo ((hm j).2 (.inr hc))
    have h4 : j ∉ s.opn := fun hc => hjo ((hm j).2 (.inl hc))
    rw [hT, hT, hF j h3]
    exact h.pair i j hij (by omega) h2 h4
  · by_cases hjk : j = k
    · subst hjk
      rw [← hl]
      have e : (List.range j).filter (fun i => insB ⟨setFrom s.out j (s.at_ + gapI), s.opn ++ [j], s.at_ + gapI⟩ i j) = (List.range j).filter (fun i => decide (i ∈ s.opn)) := by
        refine List.filter_congr fun i hi => ?_
        rw [List.mem_range] at hi
        unfold insB
        dsimp only
        rw [decide_eq_true ((hm j).2 (.inr rfl))]
        have : i ∈ s.opn ++ [j] ↔ i ∈ s.opn := by rw [hm]; simp; omega
        have e0 : decide (i ∈ s.opn ++ [j]) = decide (i ∈ s.opn) := decide_eq_decide.2 this
        rw [e0]
        simp
      rw [e]
      have hp : ((List.range j).filter (fun i => decide (i ∈ s.opn))).Perm s.opn := by
        refine (List.perm_ext_iff_of_nodup (List.nodup_range.filter _) ?_).2 fun i => ?_
        · exact h.sorted.imp fun {a b} hab => by omega
        · rw [List.mem_filter, List.mem_range]
          simp only [decide_eq_true_eq]
          exact ⟨fun h => h.2, fun hi => ⟨h.mem i hi, hi⟩⟩
      exact hp.length_eq
    · rw [← h.cnt j (by omega)]
      congr 1
      refine List.filter_congr fun i hi => ?_
      rw [List.mem_range] at hi
      unfold insB
      rw [hT, hT]
      dsimp only
      have e1 : i ∈ s.opn ++ [k] ↔ i ∈ s.opn := by rw [hm]; simp; omega
      have e2 : j ∈ s.opn ++ [k] ↔ j ∈ s.opn := by rw [hm]; simp [hjk]
      rw [decide_eq_decide.2 e1, decide_eq_decide.2 e2]
end Go.Proofs.Ytahdlbckcddeeaa
