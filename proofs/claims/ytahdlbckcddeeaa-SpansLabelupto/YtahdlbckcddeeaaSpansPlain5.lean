/- THE PLAIN SIDE OF LAYER 14 (spans): Label's spans say the levels of the items. -/
import Derived.Test.YtahdlbckcddeeaaSpansPlain4
import Derived.Test.YtahdlbckcddeeaaSpansH
namespace Go.Proofs.Ytahdlbckcddeeaa
open Go.RowKit
theorem oneP_place {k : Nat} {prev x : Item} (h : oneP k prev x = 0) : placeP k prev x = 0 := by
  rw [oneP_eq] at h
  by_cases hp : placeP k prev x ≠ 0
  · rw [if_pos hp] at h; exact absurd h hp
  · simpa using hp
theorem place_step {k : Nat} {prev x : Item} (h : placeP k prev x = 0) : (k = 0 → x.level = 0) ∧ (k ≠ 0 → 1 ≤ x.level ∧ x.level ≤ prev.level + 1) := by
  unfold placeP at h
  constructor
  · intro hk
    rw [if_pos hk] at h
    exact place0_level h
  · intro hk
    rw [if_neg hk] at h
    unfold place1 at h
    by_cases hc : x.level < 1 ∨ prev.level + 1 < x.level ∨ prev.level < x.level ∧ prev.kind = 2
    · rw [if_pos hc] at h; exact absurd h (by decide)
    · omega
theorem labGo_inv {L : List Item} (h : (checkP L).2 = 0) : ∀ k, k ≤ L.length → LInv L k (labGo L k) ∧ (labGo L k).opn.length = (if k = 0 then 0 else lvN L (k - 1) + 1)
  | 0, _ => by
    refine ⟨⟨by omega, ?_, ?_, by unfold labGo; simp, ?_, ?_, ?_, ?_, ?_, ?_⟩, rfl⟩
    · intro i hi; unfold labGo at hi; cases hi
    · unfold labGo; simp
    · intro i hi; omega
    · intro i j hij hj; omega
    · intro i hi; omega
    · intro i j hij hj; omega
    · intro i j hij hj; omega
    · intro j hj; omega
  | k + 1, hk => by
    obtain ⟨h1, h2⟩ := labGo_inv h k (by omega)
    obtain ⟨p1, p2⟩ := place_step (oneP_place ((check_ok h).2 k (by omega)))
    have hlv : lvN L k ≤ (labGo L k).opn.length := by
      rw [h2]
      unfold lvN
      by_cases h0 : k = 0
      · have := p1 h0; rw [if_pos h0]; omega
      · have := p2 h0; rw [if_neg h0]; omega
    have h3 := (shutP_at (lvN L k) (labGo L k)).2.1
    have hlen : (shutP (lvN L k) (labGo L k)).opn.length = lvN L k := by rw [h3]; omega
    have h4 := push_inv (shutP_inv (lvN L k) h1) (by rw [shutP_len, labGo_len]; omega) hlen
    refine ⟨h4, ?_⟩
    rw [if_neg (by omega), Nat.add_sub_cancel]
    show ((shutP (lvN L k) (labGo L k)).opn ++ [k]).length = _
    rw [List.length_append, hlen]
    rfl
theorem labelP_len (L : List Item) : (labelP L).length = L.length := by
  unfold labelP
  rw [shutP_len, labGo_len]
theorem label_levels {L : List Item} (h : (checkP L).2 = 0) : refLevelsP (labelP L) = some (L.map (·.level)) := by
  have hi := (labGo_inv h L.length (Nat.le_refl _)).1
  have hs := shutP_inv 0 hi
  have ha := shutP_at 0 (labGo L L.length)
  have hg := labGo_at L L.length
  have hfew := check_few h
  have hl := labelP_len L
  have he : labelP L = (shutP 0 (labGo L L.length)).out := rfl
  generalize shutP 0 (labGo L L.length) = S at *
  have hno : S.opn = [] := List.eq_nil_of_length_eq_zero (by rw [ha.2.1]; omega)
  have hat : S.at_ ≤ 4611686018427387904 := by
    have := ha.1
    rw [hg.1, hno] at this
    unfold gapI at this
    simp at this
    omega
  have nm : ∀ i, i ∉ S.opn := fun i => by rw [hno]; simp
  have ff : ∀ i, ((labelP L).getD i default).1 = fr S i := fun i => by rw [he]; rfl
  have tt : ∀ i, ((labelP L).getD i default).2 = to' S i := fun i => by rw [he]; rfl
  have hok : ∀ k, k < L.length → refOk (labelP L) k = true := fun k hk => by
    have c := hs.closed k hk (nm k)
    have f := hs.from_pos k hk
    refine refOk_yes _ k ?_ fun i hik => ?_
    · unfold headOk insideB
      rw [ff, tt]
      simp only [Bool.and_eq_true, decide_eq_true_eq]
      omega
    · unfold pairOk inB aheadB
      rw [ff, tt, ff, tt]
      simp only [Bool.and_eq_true, Bool.or_eq_true, decide_eq_true_eq]
      have a1 := hs.from_lt i k hik hk
      have a2 := hs.pair i k hik hk (nm i) (nm k)
      omega
  rw [refLevels_yes _ (by rw [hl]; exact hok), hl]
  congr 1
  refine List.ext_getElem (by simp) fun k h1 h2 => ?_
  have hk : k < L.length := by simpa using h1
  simp only [List.getElem_map, List.getElem_range]
  have hc : cntTo (labelP L) k k = lvN L k := by
    rw [← hs.cnt k hk]
    unfold cntTo
    congr 1
    refine List.filter_congr fun i hik => ?_
    rw [List.mem_range] at hik
    unfold insB inB
    rw [ff, tt, ff, tt, decide_eq_false (nm i), decide_eq_false (nm k)]
    have a1 := hs.from_lt i k hik hk
    simp [a1]
  rw [hc]
  have hlev := oneP_level ((check_ok h).2 k hk)
  unfold lvN
  rw [Int.toNat_of_nonneg hlev.1]
  simp [List.getD_eq_getElem?_getD, hk]
end Go.Proofs.Ytahdlbckcddeeaa
