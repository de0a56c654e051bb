/- THE PLAIN SIDE OF LAYER 14 (spans): the program's Levels are the document's. -/
import Derived.Test.YtahdlbckcddeeaaSpansPlain2
namespace Go.Proofs.Ytahdlbckcddeeaa
open Go.RowKit
def gS (s : List (Int × Int)) (j : Nat) : Int × Int := s.getD j default
/-- What is open behind k spans. -/
def stackOf (s : List (Int × Int)) (k : Nat) : List (Int × Int) := ((List.range k).filter (fun j => !aheadB (gS s j) (gS s (k - 1)))).map (gS s)
theorem ahead_iff (a b : Int × Int) : aheadB a b = true ↔ a.2 < b.1 := by unfold aheadB; simp
theorem in_iff (a b : Int × Int) : inB a b = true ↔ b.1 < a.1 ∧ a.2 < b.2 := by unfold inB; simp
theorem refOk_pairs {s : List (Int × Int)} {k i : Nat} (h : refOk s k = true) (hi : i < k) : (gS s i).1 < (gS s k).1 ∧ (inB (gS s k) (gS s i) = true ∨ aheadB (gS s i) (gS s k) = true) := by
  unfold refOk at h
  rw [Bool.and_eq_true, List.all_eq_true] at h
  have := h.2 i (List.mem_range.2 hi)
  unfold pairOk at this
  rw [Bool.and_eq_true, decide_eq_true_eq, Bool.or_eq_true] at this
  exact this
theorem from_le {s : List (Int × Int)} {k : Nat} (h : ∀ j, j < k → refOk s j = true) : ∀ i j, i ≤ j → j < k → (gS s i).1 ≤ (gS s j).1 := fun i j hij hj => by
  rcases Nat.eq_or_lt_of_le hij with rfl | hlt
  · exact Int.le_refl _
  · exact Int.le_of_lt (refOk_pairs (h j hj) hlt).1
theorem dropWhile_filter {α : Type} (p : α → Bool) : ∀ l : List α, l.Pairwise (fun a b => p b = true → p a = true) → l.dropWhile p = l.filter (fun a => !p a)
  | [], _ => rfl
  | a :: l, h => by
    obtain ⟨h1, h2⟩ := List.pairwise_cons.1 h
    cases hp : p a with
    | true =>
      rw [List.dropWhile_cons_of_pos hp, List.filter_cons_of_neg (by simp [hp])]
      exact dropWhile_filter p l h2
    | false =>
      rw [List.dropWhile_cons_of_neg (by simp [hp]), List.filter_cons_of_pos (by simp [hp])]
      congr 1
      symm
      rw [List.filter_eq_self]
      intro b hb
      cases hq : p b with
      | true => rw [h1 b hb hq] at hp; cases hp
      | false => rfl
theorem popL_filter (x : Int × Int) (o : List (Int × Int)) (h : o.Pairwise (fun a b => aheadB a x = true → aheadB b x = true)) : popL x o = o.filter (fun t => !aheadB t x) := by
  unfold popL
  rw [dropWhile_filter _ _ (List.pairwise_reverse.2 h), List.filter_reverse, List.reverse_reverse]
theorem range_pairwise (k : Nat) : (List.range k).Pairwise (fun a b => a < b) := List.pairwise_lt_range
/-- What is open is nested. -/
theorem stack_pairs {s : List (Int × Int)} {k : Nat} (h : ∀ j, j < k → refOk s j = true) : (stackOf s k).Pairwise (fun a b => inB b a = true) := by
  unfold stackOf
  rw [List.pairwise_map]
  have hp : ((List.range k).filter (fun j => !aheadB (gS s j) (gS s (k - 1)))).Pairwise (fun a b => a < b) := (range_pairwise k).filter _
  refine List.Pairwise.imp_of_mem ?_ hp
  intro a b ha hb hab
  rw [List.mem_filter, List.mem_range] at ha hb
  rcases (refOk_pairs (h b hb.1) hab).2 with h1 | h1
  · exact h1
  · exfalso
    have h2 := ha.2
    have h3 := (ahead_iff _ _).1 h1
    have h4 := from_le h b (k - 1) (by omega) (by omega)
    have : aheadB (gS s a) (gS s (k - 1)) = true := (ahead_iff _ _).2 (by omega)
    rw [this] at h2
    cases h2
theorem stack_mem {s : List (Int × Int)} {k : Nat} {t : Int × Int} (h : t ∈ stackOf s k) : ∃ j, j < k ∧ t = gS s j := by
  unfold stackOf at h
  obtain ⟨j, hj, rfl⟩ := List.mem_map.1 h
  rw [List.mem_filter, List.mem_range] at hj
  exact ⟨j, hj.1, rfl⟩
/-- Behind what ends ahead of the new one is let go. -/
theorem stack_pop {s : List (Int × Int)} {k : Nat} (h : ∀ j, j < k → refOk s j = true) (hk : k = 0 ∨ (gS s (k - 1)).1 < (gS s k).1) :
    popL (gS s k) (stackOf s k) = ((List.range k).filter (fun j => !aheadB (gS s j) (gS s k))).map (gS s) := by
  rw [popL_filter]
  · unfold stackOf
    rw [List.filter_map, List.filter_filter]
    congr 1
    refine List.filter_congr fun j hj => ?_
    rw [List.mem_range] at hj
    have hkk : (gS s (k - 1)).1 < (gS s k).1 := by rcases hk with h | h; omega; exact h
    show (!aheadB (gS s j) (gS s k) && !aheadB (gS s j) (gS s (k - 1))) = !aheadB (gS s j) (gS s k)
    cases h1 : aheadB (gS s j) (gS s k) with
    | true => rfl
    | false =>
      cases h2 : aheadB (gS s j) (gS s (k - 1)) with
      | false => rfl
      | true =>
        have := (ahead_iff _ _).1 h2
        rw [(ahead_iff _ _).2 (by omega)] at h1
        cases h1
  · refine (stack_pairs h).imp fun {a b} hab hx => ?_
    have h1 := (in_iff _ _).1 hab
    have h2 := (ahead_iff _ _).1 hx
    exact (ahead_iff _ _).2 (by omega)
theorem stack_push {s : List (Int × Int)} {k : Nat} (hx : (gS s k).1 < (gS s k).2) : ((List.range k).filter (fun j => !aheadB (gS s j) (gS s k))).map (gS s) ++ [gS s k] = stackOf s (k + 1) := by
  unfold stackOf
  rw [List.range_succ, List.filter_append, List.map_append, Nat.add_sub_cancel]
  congr 1
  have : aheadB (gS s k) (gS s k) = false := by
    cases h : aheadB (gS s k) (gS s k) with
    | false => rfl
    | true => have := (ahead_iff _ _).1 h; omega
  rw [List.filter_cons_of_pos (by rw [this]; rfl)]
  rfl
theorem head_iff (s : List (Int × Int)) (k : Nat) : headOk s k = true ↔ (insideB (gS s k).1 && insideB (gS s k).2) = true ∧ (gS s k).1 < (gS s k).2 := by
  unfold headOk gS
  rw [Bool.and_eq_true, decide_eq_true_eq]
/-- The program's word on the next span is the document's. -/
theorem ok_eq {s : List (Int × Int)} {k : Nat} (h : ∀ j, j < k → refOk s j = true) : okSpan s k (popL (gS s k) (stackOf s k)) = refOk s k := by
  by_cases hh : headOk s k = true
  case neg =>
    have hh' : headOk s k = false := by simpa using hh
    rw [refOk_head s k hh']
    unfold headOk at hh'
    unfold okSpan
    rw [hh']
    simp
  obtain ⟨hi, hx⟩ := (head_iff s k).1 hh
  by_cases hp : k = 0 ∨ (gS s (k - 1)).1 < (gS s k).1
  case neg =>
    have hk0 : 0 < k := by omega
    rw [refOk_pair s k (k - 1) (by omega)]
    · unfold okSpan
      have : decide (k = 0 ∨ (s.getD (k - 1) default).1 < (s.getD k default).1) = false := decide_eq_false hp
      rw [this]
      simp
    · unfold pairOk
      rw [decide_eq_false]
      · rfl
      · unfold gS at hp; omega
  rw [stack_pop h hp]
  generalize hl : (List.range k).filter (fun j => !aheadB (gS s j) (gS s k)) = l
  have hmem : ∀ j, j ∈ l ↔ j < k ∧ aheadB (gS s j) (gS s k) = false := fun j => by
    rw [← hl, List.mem_filter, List.mem_range]; simp
  have hsort : l.Pairwise (fun a b => a < b) := by rw [← hl]; exact (range_pairwise k).filter _
  have hfrom : ∀ j, j < k → (gS s j).1 < (gS s k).1 := fun j hj => by
    rcases hp with hp | hp
    · omega
    · have := from_le h j (k - 1) (by omega) (by omega); omega
  have base : okSpan s k (l.map (gS s)) = (match (l.map (gS s)).getLast? with | none => true | some t => inB (gS s k) t) := by
    unfold okSpan
    have e1 : (insideB (s.getD k default).1 && insideB (s.getD k default).2) = true := hi
    have e2 : decide ((s.getD k default).1 < (s.getD k default).2) = true := decide_eq_true hx
    have e3 : decide (k = 0 ∨ (s.getD (k - 1) default).1 < (s.getD k default).1) = true := decide_eq_true hp
    rw [e1, e2, e3]
    rfl
  rw [base]
  rcases List.eq_nil_or_concat l with rfl | ⟨l', jl, rfl⟩
  · symm
    refine refOk_yes s k hh fun j hj => ?_
    have : aheadB (gS s j) (gS s k) = true := by
      cases hc : aheadB (gS s j) (gS s k) with
      | true => rfl
      | false => have := (hmem j).2 ⟨hj, hc⟩; cases this
    unfold pairOk
    have e1 : aheadB (s.getD j default) (s.getD k default) = true := this
    have hf : decide ((s.getD j default).1 < (s.getD k default).1) = true := decide_eq_true (hfrom j hj)
    rw [e1, hf]
    simp
  · rw [List.concat_eq_append] at *
    have e : ((l' ++ [jl]).map (gS s)).getLast? = some (gS s jl) := by simp
    rw [e]
    show inB (gS s k) (gS s jl) = _
    have hjl := (hmem jl).1 (by simp)
    cases hc : inB (gS s k) (gS s jl) with
    | false =>
      symm
      refine refOk_pair s k jl hjl.1 ?_
      unfold pairOk
      have e1 : aheadB (s.getD jl default) (s.getD k default) = false := hjl.2
      have e2 : inB (s.getD k default) (s.getD jl default) = false := hc
      rw [e1, e2]
      simp
    | true =>
      symm
      refine refOk_yes s k hh fun j hj => ?_
      unfold pairOk
      have hf : decide ((s.getD j default).1 < (s.getD k default).1) = true := decide_eq_true (hfrom j hj)
      rw [hf, Bool.true_and, Bool.or_eq_true]
      cases ha : aheadB (gS s j) (gS s k) with
      | true => exact .inr ha
      | false =>
        left
        have hjm := (hmem j).2 ⟨hj, ha⟩
        rw [List.mem_append] at hjm
        rcases hjm with hjm | hjm
        · have hlt : j < jl := (List.pairwise_append.1 hsort).2.2 j hjm jl (by simp)
          have h1 := (in_iff _ _).1 hc
          show inB (gS s k) (gS s j) = true
          rcases (refOk_pairs (h jl hjl.1) hlt).2 with h2 | h2
          · have h3 := (in_iff _ _).1 h2
            exact (in_iff _ _).2 (by omega)
          · have h3 := (ahead_iff _ _).1 h2
            rw [(ahead_iff _ _).2 (by omega)] at ha
            cases ha
        · rw [List.mem_singleton] at hjm
          subst hjm
          exact hc
theorem level_eq {s : List (Int × Int)} {k : Nat} (h : ∀ j, j < k → refOk s j = true) (hk : refOk s k = true) : (popL (gS s k) (stackOf s k)).length = cntTo s k k := by
  have hh : headOk s k = true := by
    cases hc : headOk s k with
    | true => rfl
    | false => rw [refOk_head s k hc] at hk; cases hk
  obtain ⟨hi, hx⟩ := (head_iff s k).1 hh
  have hp : k = 0 ∨ (gS s (k - 1)).1 < (gS s k).1 := by
    rcases Nat.eq_zero_or_pos k with h0 | h0
    · exact .inl h0
    · exact .inr (refOk_pairs hk (by omega)).1
  rw [stack_pop h hp, List.length_map]
  unfold cntTo
  congr 1
  refine List.filter_congr fun j hj => ?_
  rw [List.mem_range] at hj
  show (!aheadB (gS s j) (gS s k)) = inB (gS s k) (gS s j)
  rcases (refOk_pairs hk hj).2 with h1 | h1
  · rw [h1]
    cases h2 : aheadB (gS s j) (gS s k) with
    | false => rfl
    | true => have := (in_iff _ _).1 h1; have := (ahead_iff _ _).1 h2; omega
  · rw [h1]
    cases h2 : inB (gS s k) (gS s j) with
    | false => rfl
    | true => have := (in_iff _ _).1 h2; have := (ahead_iff _ _).1 h1; omega
theorem levelsGo_eq (s : List (Int × Int)) : ∀ (m k : Nat) (out : List Int), k + m = s.length → (∀ j, j < k → refOk s j = true) → out = (List.range k).map (fun k => (cntTo s k k : Int)) → levelsGo s m k (stackOf s k) out = refLevelsP s
  | 0, k, out, hk, h, ho => by
    rw [levelsGo, ho]
    symm
    rw [refLevels_yes s (by rw [← hk]; exact h), ← hk, Nat.add_zero]
  | m + 1, k, out, hk, h, ho => by
    rw [levelsGo]
    have e : okSpan s k (popL (s.getD k default) (stackOf s k)) = refOk s k := ok_eq h
    rw [e]
    cases hr : refOk s k with
    | false =>
      rw [if_neg (by decide)]
      exact (refLevels_no s k (by omega) hr).symm
    | true =>
      rw [if_pos rfl]
      have hh : headOk s k = true := by
        cases hc : headOk s k with
        | true => rfl
        | false => rw [refOk_head s k hc] at hr; cases hr
      have hp : k = 0 ∨ (gS s (k - 1)).1 < (gS s k).1 := by
        rcases Nat.eq_zero_or_pos k with h0 | h0
        · exact .inl h0
        · exact .inr (refOk_pairs hr (by omega)).1
      have e2 : popL (s.getD k default) (stackOf s k) ++ [s.getD k default] = stackOf s (k + 1) := by
        rw [← stack_push ((head_iff s k).1 hh).2]
        congr 1
        exact stack_pop h hp
      rw [e2]
      refine levelsGo_eq s m (k + 1) _ (by omega) (fun j hj => ?_) ?_
      · by_cases hjk : j < k
        · exact h j hjk
        · obtain rfl : j = k := by omega
          exact hr
      · have e3 : (popL (s.getD k default) (stackOf s k)).length = cntTo s k k := level_eq h hr
        rw [e3, ho, List.range_succ, List.map_append]
        rfl
theorem levels_eq (s : List (Int × Int)) : levelsP s = refLevelsP s := levelsGo_eq s s.length 0 [] (by omega) (by omega) rfl
end Go.Proofs.Ytahdlbckcddeeaa
