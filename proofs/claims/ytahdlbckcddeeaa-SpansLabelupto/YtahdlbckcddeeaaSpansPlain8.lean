/- THE PLAIN SIDE OF LAYER 14 (spans): Label's numbers are the document's. -/
import Derived.Test.YtahdlbckcddeeaaSpansPlain7
namespace Go.Proofs.Ytahdlbckcddeeaa
open Go.RowKit
set_option linter.unusedVariables false
/-- How many begin below v; how many that have ended, end below v. -/
def cF (s : LSt) (k : Nat) (v : Int) : Nat := ((List.range k).filter (fun j => decide (fr s j < v))).length
def cT (s : LSt) (k : Nat) (v : Int) : Nat := ((List.range k).filter (fun j => !decide (j ∈ s.opn) && decide (to' s j < v))).length
structure LRank (k : Nat) (s : LSt) : Prop where
  at_ : s.at_ + s.opn.length * gapI = 2 * k * gapI
  from_ : ∀ i, i < k → fr s i = (1 + cF s k (fr s i) + cT s k (fr s i) : Nat) * gapI
  to_ : ∀ i, i < k → i ∉ s.opn → to' s i = (1 + cF s k (to' s i) + cT s k (to' s i) : Nat) * gapI
theorem filter_both {α : Type} (p : α → Bool) (l : List α) : (l.filter p).length + (l.filter (fun a => !p a)).length = l.length := by
  induction l with
  | nil => rfl
  | cons a r ih =>
    cases h : p a with
    | true => rw [List.filter_cons_of_pos h, List.filter_cons_of_neg (by simp [h])]; simp; omega
    | false => rw [List.filter_cons_of_neg (by simp [h]), List.filter_cons_of_pos (by simp [h])]; simp; omega
theorem open_count {L : List Item} {k : Nat} {s : LSt} (h : LInv L k s) : ((List.range k).filter (fun j => !decide (j ∈ s.opn))).length + s.opn.length = k := by
  have hp : ((List.range k).filter (fun i => decide (i ∈ s.opn))).Perm s.opn := by
    refine (List.perm_ext_iff_of_nodup (List.nodup_range.filter _) ?_).2 fun i => ?_
    · exact h.sorted.imp fun {a b} hab => by omega
    · rw [List.mem_filter, List.mem_range]
      simp only [decide_eq_true_eq]
      exact ⟨fun h => h.2, fun hi => ⟨h.mem i hi, hi⟩⟩
  have := filter_both (fun i => decide (i ∈ s.opn)) (List.range k)
  rw [hp.length_eq, List.length_range] at this
  omega
theorem filter_true_len (p : Nat → Bool) (k : Nat) (h : ∀ j, j < k → p j = true) : ((List.range k).filter p).length = k := by
  rw [List.filter_eq_self.2 (fun a ha => h a (List.mem_range.1 ha)), List.length_range]
/-- All that there is lies below what comes next. -/
theorem cF_all {L : List Item} {k : Nat} {s : LSt} (h : LInv L k s) (v : Int) (hv : s.at_ < v) : cF s k v = k := by
  refine filter_true_len _ k fun j hj => ?_
  have := (h.from_pos j hj).2
  exact decide_eq_true (by omega)
theorem cT_all {L : List Item} {k : Nat} {s : LSt} (h : LInv L k s) (v : Int) (hv : s.at_ < v) : cT s k v + s.opn.length = k := by
  have e : cT s k v = ((List.range k).filter (fun j => !decide (j ∈ s.opn))).length := by
    unfold cT
    congr 1
    refine List.filter_congr fun j hj => ?_
    rw [List.mem_range] at hj
    cases hc : decide (j ∈ s.opn) with
    | true => rfl
    | false =>
      have hn : j ∉ s.opn := by simpa using hc
      have := (h.closed j hj hn).2
      rw [decide_eq_true (by omega)]
      rfl
  have := open_count h
  omega
theorem next_rank {L : List Item} {k : Nat} {s : LSt} (h : LInv L k s) (r : LRank k s) : s.at_ + gapI = (1 + cF s k (s.at_ + gapI) + cT s k (s.at_ + gapI) : Nat) * gapI := by
  have hg : gapI = 1099511627776 := rfl
  have e1 := cF_all h (s.at_ + gapI) (by omega)
  have e2 := cT_all h (s.at_ + gapI) (by omega)
  have e3 := r.at_
  rw [e1]
  generalize cT s k (s.at_ + gapI) = c at *
  rw [hg] at *
  omega
theorem shut1_rank {L : List Item} {k : Nat} {s : LSt} (h : LInv L k s) (r : LRank k s) (hn : 0 < s.opn.length) : LRank k (shut1 s) := by
  have hg : gapI = 1099511627776 := rfl
  obtain ⟨o, t, ho⟩ : ∃ o t, s.opn = o ++ [t] := by
    rcases List.eq_nil_or_concat s.opn with h0 | ⟨o, t, h0⟩
    · rw [h0] at hn; exact absurd hn (by simp)
    · exact ⟨o, t, by rw [h0, List.concat_eq_append]⟩
  have hl : s.opn.getLastD 0 = t := by rw [ho]; simp [List.getLastD_eq_getLast?]
  have hd : s.opn.dropLast = o := by rw [ho]; simp
  have hs := h.sorted
  rw [ho] at hs
  have hlt : ∀ i, i ∈ o → i < t := fun i hi => (List.pairwise_append.1 hs).2.2 i hi t (by simp)
  have htS : t ∈ s.opn := by rw [ho]; simp
  have htk : t < k := h.mem t htS
  have hlen := h.len
  have e : shut1 s = ⟨setTo s.out t (s.at_ + gapI), o, s.at_ + gapI⟩ := by unfold shut1; rw [hl, hd]
  have hm : ∀ i, i ∈ s.opn ↔ i ∈ o ∨ i = t := fun i => by rw [ho]; simp
  have hto : t ∉ o := fun hc => by have := hlt t hc; omega
  have hF : ∀ i, fr (shut1 s) i = fr s i := fun i => by
    rw [e]; unfold fr
    dsimp only
    rw [setTo_at _ _ _ (by omega)]
    by_cases hi : i = t
    · subst hi; rw [if_pos rfl]
    · rw [if_neg hi]
  have hT : ∀ i, i ≠ t → to' (shut1 s) i = to' s i := fun i hi => by
    rw [e]; unfold to'
    dsimp only
    rw [setTo_at _ _ _ (by omega), if_neg hi]
  have hTt : to' (shut1 s) t = s.at_ + gapI := by
    rw [e]; unfold to'
    dsimp only
    rw [setTo_at _ _ _ (by omega), if_pos rfl]
  have hop : (shut1 s).opn = o := by rw [e]
  have hcF : ∀ v, cF (shut1 s) k v = cF s k v := fun v => by
    unfold cF
    congr 1
    exact List.filter_congr fun j hj => by rw [hF]
  have hcT : ∀ v, v ≤ s.at_ + gapI → cT (shut1 s) k v = cT s k v := fun v hv => by
    unfold cT
    congr 1
    refine List.filter_congr fun j hj => ?_
    rw [hop]
    by_cases hjt : j = t
    · subst hjt
      rw [hTt, decide_eq_false hto, decide_eq_true htS, decide_eq_false (by omega)]
      rfl
    · have hjo : j ∈ o ↔ j ∈ s.opn := by rw [hm]; simp [hjt]
      rw [hT j hjt, decide_eq_decide.2 hjo]
  refine ⟨?_, fun i hi => ?_, fun i hi hno => ?_⟩
  · rw [shut1_at s hn]; exact r.at_
  · have := (h.from_pos i hi).2
    rw [hF, hcF, hcT _ (by omega)]
    exact r.from_ i hi
  · rw [hop] at hno
    by_cases hit : i = t
    · subst hit
      rw [hTt, hcF, hcT _ (Int.le_refl _)]
      exact next_rank h r
    · have hns : i ∉ s.opn := fun hc => by
        rcases (hm i).1 hc with h1 | h1
        · exact hno h1
        · exact hit h1
      have := (h.closed i hi hns).2
      rw [hT i hit, hcF, hcT _ (by omega)]
      exact r.to_ i hi hns
theorem shutN_rank {L : List Item} {k : Nat} : ∀ (n : Nat) {s : LSt}, LInv L k s → LRank k s → n ≤ s.opn.length → LRank k (shutN n s)
  | 0, s, _, r, _ => r
  | n + 1, s, h, r, hn => by
    rw [shutN]
    refine shutN_rank n (shut1_inv h (by omega)) (shut1_rank h r (by omega)) ?_
    unfold shut1
    simp
    omega
theorem push_rank {L : List Item} {k : Nat} {s : LSt} (h : LInv L k s) (r : LRank k s) (hk : k < s.out.length) : LRank (k + 1) ⟨setFrom s.out k (s.at_ + gapI), s.opn ++ [k], s.at_ + gapI⟩ := by
  have hg : gapI = 1099511627776 := rfl
  have hF : ∀ i, i ≠ k → fr ⟨setFrom s.out k (s.at_ + gapI), s.opn ++ [k], s.at_ + gapI⟩ i = fr s i := fun i hi => by
    unfold fr; dsimp only
    rw [setFrom_at _ _ _ hk, if_neg hi]
  have hFk : fr ⟨setFrom s.out k (s.at_ + gapI), s.opn ++ [k], s.at_ + gapI⟩ k = s.at_ + gapI := by
    unfold fr; dsimp only
    rw [setFrom_at _ _ _ hk, if_pos rfl]
  have hT : ∀ i, to' ⟨setFrom s.out k (s.at_ + gapI), s.opn ++ [k], s.at_ + gapI⟩ i = to' s i := fun i => by
    unfold to'; dsimp only
    rw [setFrom_at _ _ _ hk]
    by_cases hi : i = k
    · subst hi; rw [if_pos rfl]
    · rw [if_neg hi]
  have hm : ∀ i, i ∈ s.opn ++ [k] ↔ i ∈ s.opn ∨ i = k := fun i => by simp
  have hcF : ∀ v, v ≤ s.at_ + gapI → cF ⟨setFrom s.out k (s.at_ + gapI), s.opn ++ [k], s.at_ + gapI⟩ (k + 1) v = cF s k v := fun v hv => by
    unfold cF
    rw [List.range_succ, List.filter_append, List.length_append, List.filter_cons_of_neg (by rw [hFk]; simp; omega)]
    rw [List.filter_nil, List.length_nil, Nat.add_zero]
    congr 1
    exact List.filter_congr fun j hj => by rw [List.mem_range] at hj; rw [hF j (by omega)]
  have hcT : ∀ v, cT ⟨setFrom s.out k (s.at_ + gapI), s.opn ++ [k], s.at_ + gapI⟩ (k + 1) v = cT s k v := fun v => by
    unfold cT
    rw [List.range_succ, List.filter_append, List.length_append, List.filter_cons_of_neg (by simp)]
    rw [List.filter_nil, List.length_nil, Nat.add_zero]
    congr 1
    refine List.filter_congr fun j hj => ?_
    rw [List.mem_range] at hj
    have e1 : j ∈ s.opn ++ [k] ↔ j ∈ s.opn := by rw [hm]; simp; omega
    rw [hT j]
    dsimp only
    rw [decide_eq_decide.2 e1]
  refine ⟨?_, fun i hi => ?_, fun i hi hno => ?_⟩
  · have := r.at_
    simp only [List.length_append, List.length_cons, List.length_nil]
    rw [hg] at *
    omega
  · by_cases hik : i = k
    · subst hik
      rw [hFk, hcF _ (Int.le_refl _), hcT]
      exact next_rank h r
    · have := (h.from_pos i (by omega)).2
      rw [hF i hik, hcF _ (by omega), hcT]
      exact r.from_ i (by omega)
  · have h1 : i ≠ k := fun hc => hno ((hm i).2 (.inr hc))
    have h2 : i ∉ s.opn := fun hc => hno ((hm i).2 (.inl hc))
    have := (h.closed i (by omega) h2).2
    rw [hT, hcF _ (by omega), hcT]
    exact r.to_ i (by omega) h2
theorem labGo_rank {L : List Item} (h : (checkP L).2 = 0) : ∀ k, k ≤ L.length → LRank k (labGo L k)
  | 0, _ => ⟨by unfold labGo gapI; simp, fun i hi => by omega, fun i hi => by omega⟩
  | k + 1, hk => by
    have h1 := (labGo_inv h k (by omega)).1
    have r := shutN_rank ((labGo L k).opn.length - lvN L k) h1 (labGo_rank h k (by omega)) (by omega)
    exact push_rank (shutP_inv (lvN L k) h1) r (by rw [shutP_len, labGo_len]; omega)
/-- The document's numbers. -/
def rFrom (L : List Item) (k : Nat) : Nat := 1 + k + ((List.range k).filter (fun i => decide (endP L i ≤ k))).length
def rTo (L : List Item) (k : Nat) : Nat := 1 + ((List.range L.length).filter (fun i => decide (i < endP L k))).length + ((List.range L.length).filter (fun i => decide (i ≠ k) && decide (endP L i ≤ endP L k) && (decide (k < i) || decide (endP L i ≤ k)))).length
def rlabelP (L : List Item) : List (Int × Int) := (List.range L.length).map (fun k => ((rFrom L k : Int) * gapI, (rTo L k : Int) * gapI))
theorem range_below (p : Nat → Bool) (n k : Nat) (hk : k ≤ n) : ((List.range n).filter (fun i => decide (i < k) && p i)).length = ((List.range k).filter p).length := by
  obtain ⟨d, rfl⟩ : ∃ d, n = k + d := ⟨n - k, by omega⟩
  induction d with
  | zero =>
    congr 1
    exact List.filter_congr fun i hi => by rw [List.mem_range] at hi; rw [decide_eq_true (by omega)]; rfl
  | succ d ih =>
    rw [← Nat.add_assoc, List.range_succ, List.filter_append, List.length_append, ih (by omega), List.filter_cons_of_neg (by simp; intro h; omega)]
    simp
theorem label_eq {L : List Item} (h : (checkP L).2 = 0) : labelP L = rlabelP L := by
  have hi := (labGo_inv h L.length (Nat.le_refl _)).1
  have r := shutN_rank ((labGo L L.length).opn.length - 0) hi (labGo_rank h L.length (Nat.le_refl _)) (by omega)
  have hs := shutP_inv 0 hi
  have ha := shutP_at 0 (labGo L L.length)
  have hl := labelP_len L
  have hlv := label_levels h
  have he : labelP L = (shutP 0 (labGo L L.length)).out := rfl
  change LRank L.length (shutP 0 (labGo L L.length)) at r
  generalize shutP 0 (labGo L L.length) = S at *
  have hno : S.opn = [] := List.eq_nil_of_length_eq_zero (by rw [ha.2.1]; omega)
  have nm : ∀ i, i ∉ S.opn := fun i => by rw [hno]; simp
  have ff : ∀ i, (gS (labelP L) i).1 = fr S i := fun i => by rw [he]; rfl
  have tt : ∀ i, (gS (labelP L) i).2 = to' S i := fun i => by rw [he]; rfl
  have hok : ∀ k, k < L.length → refOk (labelP L) k = true := fun k hk => by
    cases hr : refOk (labelP L) k with
    | true => rfl
    | false => rw [refLevels_no _ k (by omega) hr] at hlv; cases hlv
  have hc : ∀ j, j < L.length → (cntTo (labelP L) j j : Int) = lvL L j := by
    rw [refLevels_yes _ (by rw [hl]; exact hok), hl, Option.some.injEq] at hlv
    intro j hj
    have := congrArg (fun l => l.getD j 0) hlv
    simpa [List.getD_eq_getElem?_getD, hj, lvL] using this
  have key : ∀ i k, i < k → k < L.length → (inB (gS (labelP L) k) (gS (labelP L) i) = true ↔ k < endP L i) := fun i k hik hk => by
    rw [in_levels hok hik hk, end_iff L i k hik hk]
    constructor
    · intro hh j hj1 hj2
      have := hh j hj1 hj2
      rw [← hc i (by omega), ← hc j (by omega)]
      omega
    · intro hh j hj1 hj2
      have := hh j hj1 hj2
      rw [← hc i (by omega), ← hc j (by omega)] at this
      omega
  have hend : ∀ i, i < L.length → i < endP L i ∧ endP L i ≤ L.length := fun i hi => by
    obtain ⟨_, h2, h3, _⟩ := endFrom_spec L i (L.length - (i + 1)) (i + 1)
    unfold endP
    omega
  have FT : ∀ k, k < L.length → fr S k < to' S k := fun k hk => (hs.closed k hk (nm k)).1
  -- how two lie
  have lie : ∀ i k, i < k → k < L.length → (k < endP L i ∧ to' S k < to' S i ∧ fr S k < to' S i) ∨ (endP L i ≤ k ∧ to' S i < fr S k) := fun i k hik hk => by
    by_cases hin : k < endP L i
    · left
      have := (in_iff _ _).1 ((key i k hik hk).2 hin)
      rw [ff, tt, ff, tt] at this
      have := FT k hk
      omega
    · right
      rcases (refOk_pairs (hok k hk) hik).2 with h1 | h1
      · exact absurd ((key i k hik hk).1 h1) hin
      · have := (ahead_iff _ _).1 h1
        rw [tt, ff] at this
        omega
  have lt : ∀ i k, i < k → k < L.length → fr S i < fr S k := fun i k hik hk => hs.from_lt i k hik hk
  have eF : ∀ k, k < L.length → cF S L.length (fr S k) = k := fun k hk => by
    unfold cF
    have e : (List.range L.length).filter (fun j => decide (fr S j < fr S k)) = (List.range L.length).filter (fun j => decide (j < k) && true) := by
      refine List.filter_congr fun j hj => ?_
      rw [List.mem_range] at hj
      rw [Bool.and_true, decide_eq_decide]
      rcases Nat.lt_trichotomy j k with h1 | h1 | h1
      · have := lt j k h1 hk; exact ⟨fun _ => h1, fun _ => this⟩
      · subst h1; constructor <;> intro h <;> omega
      · have := lt k j h1 hj; constructor <;> intro h <;> omega
    rw [e, range_below (fun _ => true) _ k (by omega)]
    exact filter_true_len _ k (fun _ _ => rfl)
  have eFT : ∀ k, k < L.length → cT S L.length (fr S k) = ((List.range k).filter (fun i => decide (endP L i ≤ k))).length := fun k hk => by
    unfold cT
    rw [← range_below (fun i => decide (endP L i ≤ k)) L.length k (by omega)]
    congr 1
    refine List.filter_congr fun j hj => ?_
    rw [List.mem_range] at hj
    rw [decide_eq_false (nm j)]
    have hj2 := FT j hj
    rw [Bool.not_false, Bool.true_and, Bool.eq_iff_iff, Bool.and_eq_true, decide_eq_true_eq, decide_eq_true_eq, decide_eq_true_eq]
    rcases Nat.lt_trichotomy j k with h1 | h1 | h1
    · rcases lie j k h1 hk with h2 | h2 <;> omega
    · subst h1; omega
    · have := lt k j h1 hj; omega
  have eT : ∀ k, k < L.length → cF S L.length (to' S k) = ((List.range L.length).filter (fun i => decide (i < endP L k))).length := fun k hk => by
    unfold cF
    congr 1
    refine List.filter_congr fun j hj => ?_
    rw [List.mem_range] at hj
    rw [decide_eq_decide]
    have h0 := FT k hk
    have h9 := hend k hk
    rcases Nat.lt_trichotomy j k with h1 | h1 | h1
    · have := lt j k h1 hk; omega
    · subst h1; omega
    · rcases lie k j h1 hj with h2 | h2 <;> omega
  have eTT : ∀ k, k < L.length → cT S L.length (to' S k) = ((List.range L.length).filter (fun i => decide (i ≠ k) && decide (endP L i ≤ endP L k) && (decide (k < i) || decide (endP L i ≤ k)))).length := fun k hk => by
    unfold cT
    congr 1
    refine List.filter_congr fun j hj => ?_
    rw [List.mem_range] at hj
    rw [decide_eq_false (nm j), Bool.not_false, Bool.true_and, Bool.eq_iff_iff]
    simp only [Bool.and_eq_true, Bool.or_eq_true, decide_eq_true_eq]
    have h0 := FT k hk
    have h8 := FT j hj
    have h9 := hend k hk
    have h7 := hend j hj
    rcases Nat.lt_trichotomy j k with h1 | h1 | h1
    · rcases lie j k h1 hk with h2 | h2 <;> omega
    · subst h1; omega
    · rcases lie k j h1 hj with h2 | h2
      · -- what lies in k ends where k does, or ahead
        have : endP L j ≤ endP L k := by
          rcases Nat.lt_or_ge (endP L k) (endP L j) with h3 | h3
          · exfalso
            have h4 := end_iff L j (endP L k) h2.1 (by omega)
            have h5 := h4.1 h3 (endP L k) h2.1 (Nat.le_refl _)
            obtain ⟨_, _, _, h6⟩ := endFrom_spec L k (L.length - (k + 1)) (k + 1)
            have h10 : lvL L (endP L k) ≤ lvL L k := h6 (by show endP L k < _; omega)
            have h11 := (end_iff L k j h1 hj).1 h2.1 j h1 (Nat.le_refl _)
            omega
          · exact h3
        omega
      · omega
  refine List.ext_getElem (by rw [hl]; unfold rlabelP; simp) fun k h1 h2 => ?_
  have hk : k < L.length := by omega
  have e1 : (labelP L)[k] = gS (labelP L) k := by
    unfold gS
    rw [List.getD_eq_getElem?_getD, List.getElem?_eq_getElem h1]
    rfl
  have e2 : (rlabelP L)[k] = ((rFrom L k : Int) * gapI, (rTo L k : Int) * gapI) := by simp only [rlabelP, List.getElem_map, List.getElem_range]
  rw [e1, e2]
  refine Prod.ext ?_ ?_
  · show (gS (labelP L) k).1 = _
    rw [ff, r.from_ k hk, eF k hk, eFT k hk]
    rfl
  · show (gS (labelP L) k).2 = _
    rw [tt, r.to_ k hk (nm k), eT k hk, eTT k hk]
    rfl
end Go.Proofs.Ytahdlbckcddeeaa
