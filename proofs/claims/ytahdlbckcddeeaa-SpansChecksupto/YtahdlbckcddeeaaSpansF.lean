/- WALKS OF LAYER 14 (spans): Between, the program's and the document's. -/
import Derived.Test.YtahdlbckcddeeaaSpansE
namespace Go.Proofs.Ytahdlbckcddeeaa
open Go.RowKit
set_option linter.unusedVariables false
def betweenOk (low high n : Int) : Bool := insideB low && insideB high && decide (0 ≤ n ∧ n ≤ 4096 ∧ n < high - low)
def betweenL (low high n : Int) (m : Nat) : List Int := (List.range m).map (fun k : Nat => low + (high - low) * ((k : Int) + 1) / (n + 1))
def betweenP (low high n : Int) : Option (List Int) := if betweenOk low high n = true then some (betweenL low high n n.toNat) else none
theorem betweenL_len (low high n : Int) (m : Nat) : (betweenL low high n m).length = m := by unfold betweenL; simp
theorem betweenL_succ (low high n : Int) (m : Nat) : betweenL low high n (m + 1) = betweenL low high n m ++ [low + (high - low) * ((m : Int) + 1) / (n + 1)] := by
  unfold betweenL
  rw [List.range_succ, List.map_append]
  rfl
theorem insideB_yes {n : Int} (h : insideB n = true) : 0 ≤ n ∧ n ≤ 4611686018427387904 := by unfold insideB at h; simpa using h
theorem between_no {low high n : Int} (h : betweenOk low high n = false) : betweenP low high n = none := by unfold betweenP; rw [h]; rfl
theorem between_yes {low high : Int} {m : Nat} (h : betweenOk low high m = true) : betweenP low high m = some (betweenL low high m m) := by unfold betweenP; rw [if_pos h]; rfl
set_option maxRecDepth 100000 in
set_option maxHeartbeats 2000000 in
theorem between_any (low high n : Int) (w : World) : Calls Try.prog 17 #[.int .i64 low, .int .i64 high, .int .i64 n] w (LevelsPost (betweenP low high n) w) := by
  obtain ⟨j0, hj, hj0, hj1, hj2⟩ := info_parts infoInt
  obtain ⟨q, hq⟩ : ∃ q, (insideB low && insideB high) = q := ⟨_, rfl⟩
  have HIT : Hid (∀ w : World, ∀ g, w.cell? ⟨g, 0, none⟩ = some (.int .i64 low) → w.cell? ⟨g, 1, none⟩ = some (.int .i64 high) → Calls Try.prog 30 #[.slice (some ⟨g, 0, none⟩) 2 2] w fun e w' => e = .returned (.bool q) ∧ w = w') :=
    fun w g h0 h1 => (inside_two g low high w h0 h1).mono fun e w' ⟨he, hw⟩ => ⟨by rw [he, hq], hw⟩
  by_cases hok : betweenOk low high n = true
  · have hqt : q = true := by rw [← hq]; unfold betweenOk at hok; simp at hok ⊢; exact hok.1
    subst hqt
    have i1 : 0 ≤ low ∧ low ≤ 4611686018427387904 := insideB_yes (by simp at hq; exact hq.1)
    have i2 : 0 ≤ high ∧ high ≤ 4611686018427387904 := insideB_yes (by simp at hq; exact hq.2)
    have i3 : 0 ≤ n ∧ n ≤ 4096 ∧ n < high - low := by unfold betweenOk at hok; simp at hok; exact hok.2
    obtain ⟨m, rfl⟩ := Int.eq_ofNat_of_zero_le i3.1
    rw [between_yes hok]
    have HQ := Lib.hid hq
    have HOK := Lib.hid hok
    clear hq hok
    go_enter Try.func17, Try.ntmps17
    go_wp2_with fail
    refine (HIT.out _ _ ?_ ?_).mono ?_
    · simp [go_sem]
    · simp [go_sem]
    rintro e w2 ⟨rfl, rfl⟩
    go_wp2_with fail
    go_loopw [8, 9] (fun u i wr => ∃ (k : Nat), k ≤ m ∧ i = .int .i64 ((k : Int) + 1) ∧ OwnS wr w.heap.size 3 1 u k ((betweenL low high m k).map (Value.int .i64)) ∧ Below w.heap.size w wr) (fun _ i _ => m + 1 - (intOf i).toNat)
    case atStart => exact ⟨0, by omega, rfl, OwnS.nil _ _ _ _, (Below.refl _ _).alloc (Nat.le_refl _) _⟩
    case round =>
      obtain ⟨k, hk, rfl, hou, hb⟩ := hrel
      by_cases hkm : k < m
      · go_wp2_with (first | (go_at_call 31; refine (spart_any low (high - low) _ _ (by omega) (by omega) (by omega) (by omega) (by omega) (by omega) _).mono ?_; rintro e w3 ⟨rfl, hb3⟩) | (at_builtin; refine wpList_append_ownS _ rfl _ _ 32 rfl w.heap.size 3 j0 (.int .i64 0) 1 8 Try.underlying32 hj hj0 hj1 hj2 rfl (by decide) _ _ _ rfl ((hou.below hb3).alloc _) ⟨w3.heap.size, 0, none⟩ 1 1 [.int .i64 (low + (high - low) * ((k : Int) + 1) / ((m : Int) + 1))] rfl rfl ?c1 ?c2 ?c3 ?c4 ?c5 ?_))
        case c1 => exact cell_one_new _ _ _
        case c2 => intro u hu; simp at hu; subst hu; rfl
        case c3 => unfold maxLen; omega
        case c4 => omega
        case c5 => have := hb.size; have := hb3.size; simp; omega
        intro v1 wa hown1 hgrow1
        have hba : Below w.heap.size w wa := below_grown ((hb.trans (hb3.mono hb.size)).alloc (by have := hb.size; have := hb3.size; omega) _) ((hou.below hb3).alloc _) hgrow1 (by have := hb.size; have := hb3.size; simp; omega) (Nat.le_refl _)
        clear hou hgrow1
        go_wp2_with fail
        go_roundw
        case rel => exact ⟨k + 1, by omega, by go_num, by rw [betweenL_succ, List.map_append]; exact hown1, hba⟩
        case measure => simp [intOf]; omega
      · obtain rfl : k = m := by omega
        go_wp2_with fail
        go_ret2
        exact ⟨_, rfl, by rw [betweenL_len]; exact hou, hb⟩
  · have hno : betweenOk low high n = false := by simpa using hok
    rw [between_no hno]
    unfold betweenOk at hno
    rw [hq] at hno
    have HQ := Lib.hid hq
    clear hq hok
    go_enter Try.func17, Try.ntmps17
    go_wp2_with fail
    refine (HIT.out _ _ ?_ ?_).mono ?_
    · simp [go_sem]
    · simp [go_sem]
    rintro e w2 ⟨rfl, rfl⟩
    cases q
    · clear hno
      go_wp2_with fail
      go_ret2
      exact ⟨rfl, (Below.refl _ _).alloc (Nat.le_refl _) _⟩
    · have i1 : 0 ≤ low ∧ low ≤ 4611686018427387904 := insideB_yes (by have := HQ.out; simp at this; exact this.1)
      have i2 : 0 ≤ high ∧ high ≤ 4611686018427387904 := insideB_yes (by have := HQ.out; simp at this; exact this.2)
      have h3 : ¬ (0 ≤ n ∧ n ≤ 4096 ∧ n < high - low) := by simpa using hno
      clear hno
      by_cases a1 : n < 0
      · clear h3
        go_wp2_with fail
        go_ret2
        exact ⟨rfl, (Below.refl _ _).alloc (Nat.le_refl _) _⟩
      by_cases a2 : 4096 < n
      · clear h3
        go_wp2_with fail
        go_ret2
        exact ⟨rfl, (Below.refl _ _).alloc (Nat.le_refl _) _⟩
      have a3 : high - low ≤ n := by omega
      clear h3
      go_wp2_with fail
      go_ret2
      exact ⟨rfl, (Below.refl _ _).alloc (Nat.le_refl _) _⟩
set_option maxRecDepth 100000 in
set_option maxHeartbeats 2000000 in
theorem rbetween_any (low high n : Int) (w : World) : Calls Try.prog 18 #[.int .i64 low, .int .i64 high, .int .i64 n] w (LevelsPost (betweenP low high n) w) := by
  obtain ⟨j0, hj, hj0, hj1, hj2⟩ := info_parts infoInt
  obtain ⟨q1, hq1⟩ : ∃ q, insideB low = q := ⟨_, rfl⟩
  obtain ⟨q2, hq2⟩ : ∃ q, insideB high = q := ⟨_, rfl⟩
  have HC1 : Hid (∀ w, Calls Try.prog 27 #[.int .i64 low] w fun e w' => e = .returned (.bool q1) ∧ w = w') := fun w => (rinside_any low w).mono fun e w' ⟨he, hw⟩ => ⟨by rw [he, hq1], hw⟩
  have HC2 : Hid (∀ w, Calls Try.prog 27 #[.int .i64 high] w fun e w' => e = .returned (.bool q2) ∧ w = w') := fun w => (rinside_any high w).mono fun e w' ⟨he, hw⟩ => ⟨by rw [he, hq2], hw⟩
  by_cases hok : betweenOk low high n = true
  · have hqt : q1 = true ∧ q2 = true := by rw [← hq1, ← hq2]; unfold betweenOk at hok; simp at hok ⊢; exact hok.1
    obtain ⟨rfl, rfl⟩ := hqt
    have i1 : 0 ≤ low ∧ low ≤ 4611686018427387904 := insideB_yes hq1
    have i2 : 0 ≤ high ∧ high ≤ 4611686018427387904 := insideB_yes hq2
    have i3 : 0 ≤ n ∧ n ≤ 4096 ∧ n < high - low := by unfold betweenOk at hok; simp at hok; exact hok.2
    obtain ⟨m, rfl⟩ := Int.eq_ofNat_of_zero_le i3.1
    rw [between_yes hok]
    have HOK := Lib.hid hok
    clear hq1 hq2 hok
    go_enter Try.func18, Try.ntmps18
    go_wp2_with (first | (refine (HC1.out _).mono ?_; rintro e w2 ⟨rfl, rfl⟩) | (refine (HC2.out _).mono ?_; rintro e w2 ⟨rfl, rfl⟩))
    go_wp2_with (first | (refine (HC1.out _).mono ?_; rintro e w2 ⟨rfl, rfl⟩) | (refine (HC2.out _).mono ?_; rintro e w2 ⟨rfl, rfl⟩))
    go_loopw [8, 9] (fun u i wr => ∃ (k : Nat), k ≤ m ∧ i = .int .i64 ((k : Int) + 1) ∧ OwnS wr w.heap.size 3 1 u k ((betweenL low high m k).map (Value.int .i64)) ∧ Below w.heap.size w wr) (fun _ i _ => m + 1 - (intOf i).toNat)
    case atStart => exact ⟨0, by omega, rfl, OwnS.nil _ _ _ _, Below.refl _ _⟩
    case round =>
      obtain ⟨k, hk, rfl, hou, hb⟩ := hrel
      by_cases hkm : k < m
      · obtain ⟨p1, p2⟩ := part_le (high - low) ((k : Int) + 1) ((m : Int) + 1) (by omega) (by omega) (by omega)
        go_wp2_with (first | (go_at_call 32; refine (scaled_any (high - low) _ _ (by omega) (by omega) (by omega) (by omega) (by omega) _).mono ?_; rintro e w3 ⟨rfl, rfl⟩) | (at_builtin; refine wpList_append_ownS _ rfl _ _ 32 rfl w.heap.size 3 j0 (.int .i64 0) 1 8 Try.underlying32 hj hj0 hj1 hj2 rfl (by decide) _ _ _ rfl (hou.alloc _) ⟨w3.heap.size, 0, none⟩ 1 1 [.int .i64 (low + (high - low) * ((k : Int) + 1) / ((m : Int) + 1))] rfl rfl ?c1 ?c2 ?c3 ?c4 ?c5 ?_))
        case c1 => exact cell_one_new _ _ _
        case c2 => intro u hu; simp at hu; subst hu; rfl
        case c3 => unfold maxLen; omega
        case c4 => omega
        case c5 => have := hb.size; simp; omega
        intro v1 wa hown1 hgrow1
        have hba : Below w.heap.size w wa := below_grown (hb.alloc (by have := hb.size; omega) _) (hou.alloc _) hgrow1 (by have := hb.size; simp; omega) (Nat.le_refl _)
        clear hou hgrow1
        go_wp2_with fail
        go_roundw
        case rel => exact ⟨k + 1, by omega, by go_num, by rw [betweenL_succ, List.map_append]; exact hown1, hba⟩
        case measure => simp [intOf]; omega
      · obtain rfl : k = m := by omega
        go_wp2_with fail
        go_ret2
        exact ⟨_, rfl, by rw [betweenL_len]; exact hou, hb⟩
  · have hno : betweenOk low high n = false := by simpa using hok
    rw [between_no hno]
    unfold betweenOk at hno
    rw [hq1, hq2] at hno
    have HQ1 := Lib.hid hq1
    have HQ2 := Lib.hid hq2
    clear hq1 hq2 hok
    cases q1
    · clear hno
      go_enter Try.func18, Try.ntmps18
      go_wp2_with (first | (refine (HC1.out _).mono ?_; rintro e w2 ⟨rfl, rfl⟩) | (refine (HC2.out _).mono ?_; rintro e w2 ⟨rfl, rfl⟩))
      go_ret2
      exact ⟨rfl, Below.refl _ _⟩
    cases q2
    · clear hno
      go_enter Try.func18, Try.ntmps18
      go_wp2_with (first | (refine (HC1.out _).mono ?_; rintro e w2 ⟨rfl, rfl⟩) | (refine (HC2.out _).mono ?_; rintro e w2 ⟨rfl, rfl⟩))
      go_ret2
      exact ⟨rfl, Below.refl _ _⟩
    have i1 : 0 ≤ low ∧ low ≤ 4611686018427387904 := insideB_yes HQ1.out
    have i2 : 0 ≤ high ∧ high ≤ 4611686018427387904 := insideB_yes HQ2.out
    have HCC : Hid (∀ w x, x = low ∨ x = high → Calls Try.prog 27 #[.int .i64 x] w fun e w' => e = .returned (.bool true) ∧ w = w') := Lib.hid fun w x hx => by
      rcases hx with rfl | rfl
      · exact HC1.out w
      · exact HC2.out w
    clear HC1 HC2
    have h3 : ¬ (0 ≤ n ∧ n ≤ 4096 ∧ n < high - low) := by simpa using hno
    clear hno
    by_cases a1 : n < 0
    · clear h3
      go_enter Try.func18, Try.ntmps18
      go_wp2_with (go_at_call 27; refine (HCC.out _ _ (by first | exact .inl rfl | exact .inr rfl)).mono ?_; rintro e w2 ⟨rfl, rfl⟩)
      go_ret2
      exact ⟨rfl, Below.refl _ _⟩
    by_cases a2 : 4096 < n
    · clear h3
      go_enter Try.func18, Try.ntmps18
      go_wp2_with (go_at_call 27; refine (HCC.out _ _ (by first | exact .inl rfl | exact .inr rfl)).mono ?_; rintro e w2 ⟨rfl, rfl⟩)
      go_ret2
      exact ⟨rfl, Below.refl _ _⟩
    have a3 : high - low ≤ n := by omega
    clear h3
    go_enter Try.func18, Try.ntmps18
    go_wp2_with (go_at_call 27; refine (HCC.out _ _ (by first | exact .inl rfl | exact .inr rfl)).mono ?_; rintro e w2 ⟨rfl, rfl⟩)
    go_ret2
    exact ⟨rfl, Below.refl _ _⟩
end Go.Proofs.Ytahdlbckcddeeaa
