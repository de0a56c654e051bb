/- WALK OF THE STATEMENT SpansBetween. -/
import Derived.Test.YtahdlbckcddeeaaSpansI
namespace Go.Proofs.Ytahdlbckcddeeaa
open Go.RowKit
set_option linter.unusedVariables false
theorem between_rises (low high : Int) (m : Nat) (h : betweenOk low high m = true) (k : Nat) (hk : k < m) :
    (if k = 0 then low else (betweenL low high m m).getD (k - 1) 0) < (betweenL low high m m).getD k 0 ∧ (betweenL low high m m).getD k 0 < high := by
  have h3 : (m : Int) < high - low := by unfold betweenOk at h; simp at h; exact h.2.2
  have hd : ∀ j, j < m → (betweenL low high m m).getD j 0 = low + (high - low) * ((j : Int) + 1) / ((m : Int) + 1) := fun j hj => by
    unfold betweenL
    simp [List.getD_eq_getElem?_getD, hj]
  generalize hW : high - low = W at h3 hd
  have hp : (0 : Int) < (m : Int) + 1 := by omega
  have step : ∀ a b : Int, a + ((m : Int) + 1) ≤ b → a / ((m : Int) + 1) + 1 ≤ b / ((m : Int) + 1) := fun a b hab => by
    rw [Int.le_ediv_iff_mul_le hp, Int.add_mul, Int.one_mul]
    have := Int.ediv_mul_le a (b := (m : Int) + 1) (by omega)
    omega
  have hup : ∀ j : Nat, j < m → W * ((j : Int) + 1) / ((m : Int) + 1) < W := fun j hj => by
    have : W * ((j : Int) + 1) < W * ((m : Int) + 1) := Int.mul_lt_mul_of_pos_left (by omega) (by omega)
    exact Int.ediv_lt_of_lt_mul hp this
  rw [hd k hk]
  have u := hup k hk
  by_cases h0 : k = 0
  · subst h0
    rw [if_pos rfl]
    have s := step 0 (W * (((0 : Nat) : Int) + 1)) (by simp; omega)
    rw [Int.zero_ediv] at s
    omega
  · rw [if_neg h0, hd (k - 1) (by omega)]
    have e : (((k - 1 : Nat) : Int) + 1) = (k : Int) := by omega
    rw [e]
    have s := step (W * (k : Int)) (W * ((k : Int) + 1)) (by rw [Int.mul_add]; omega)
    omega
set_option maxRecDepth 100000 in
set_option maxHeartbeats 2000000 in
theorem spansBetween_any (low high many : Int) (w : World) : Calls Try.prog 6 #[.int .i64 low, .int .i64 high, .int .i64 many] w fun e w' => e = .returned (.bool true) ∧ Below w.heap.size w w' := by
  by_cases hok : betweenOk low high many = true
  · obtain ⟨m, rfl⟩ : ∃ m : Nat, many = m := by
      have h3 : 0 ≤ many := by unfold betweenOk at hok; simp at hok; exact hok.2.1
      exact Int.eq_ofNat_of_zero_le h3
    have hm : m ≤ 4096 := by unfold betweenOk at hok; simp at hok; omega
    have HB : Hid (∀ w, Calls Try.prog 17 #[.int .i64 low, .int .i64 high, .int .i64 m] w (LevelsPost (some (betweenL low high m m)) w)) := Lib.hid fun w => by
      have := between_any low high m w
      rw [between_yes hok] at this
      exact this
    have HR : Hid (∀ w, Calls Try.prog 18 #[.int .i64 low, .int .i64 high, .int .i64 m] w (LevelsPost (some (betweenL low high m m)) w)) := Lib.hid fun w => by
      have := rbetween_any low high m w
      rw [between_yes hok] at this
      exact this
    have HX := Lib.hid (between_rises low high m hok)
    have hl := betweenL_len low high m m
    generalize betweenL low high m m = l at HB HR HX hl
    have HL := Lib.hid hl
    clear hok hl
    go_enter Try.func6, Try.ntmps6
    go_wp2_with fail
    refine (HB.out _).mono ?_
    rintro e w1 ⟨v1, rfl, h1, hb1⟩
    go_wp2_with fail
    refine (HR.out _).mono ?_
    rintro e w2 ⟨v2, rfl, h2, hb2⟩
    have h1' := h1.below hb2
    go_wp2_with fail
    refine (ints_any _ _ v1 v2 l l (by rw [HL.out]; omega) _ h1' h2).mono ?_
    rintro e w3 ⟨rfl, hb3⟩
    rw [beq_self_eq_true]
    have h3 := h1'.below hb3
    have hbw : Below w.heap.size w w3 := (hb1.trans (hb2.mono hb1.size)).trans (hb3.mono (Nat.le_trans hb1.size hb2.size))
    rw [HL.out] at h3
    clear h1 h2 h1' hb1 hb2 hb3
    obtain ⟨a, c, rfl⟩ := h3.len
    go_wp2_with fail
    go_loopw [11, 40] (fun u i wr => ∃ (k : Nat) (y : Int), k ≤ m ∧ i = .int .i64 k ∧ u = .int .i64 y ∧ Hid (y = if k = 0 then low else l.getD (k - 1) 0) ∧ Below w3.heap.size w3 wr) (fun _ i _ => m - (intOf i).toNat)
    case atStart => exact ⟨0, low, by omega, rfl, rfl, Lib.hid rfl, Below.refl _ _⟩
    case round =>
      obtain ⟨k, y, hk, rfl, rfl, HY, hb⟩ := hrel
      by_cases hlt : k < m
      · obtain ⟨g, cp, hv, _, hg, _, _⟩ := h3.shape (by omega)
        cases hv
        have hx := HX.out k hlt
        have r1 : wr.cell? ⟨g, k, none⟩ = some (.int .i64 (l.getD k 0)) := by
          rw [hb.cell (by exact hg), h3.cellAt k (by omega)]; exact int_at l k (by rw [HL.out]; exact hlt)
        rw [← HY.out] at hx
        generalize hz : l.getD k 0 = z at hx r1
        have HZ := Lib.hid hz
        obtain ⟨x1, x2⟩ := hx
        clear hz
        go_wp2_with fail
        go_roundw
        case rel => exact ⟨k + 1, z, by omega, by go_num, rfl, Lib.hid (by rw [if_neg (by omega), Nat.add_sub_cancel, HZ.out]), hb⟩
        case measure => simp [intOf]; omega
      · obtain rfl : k = m := by omega
        go_wp2_with fail
        refine (alive_any _).mono ?_
        rintro e w4 ⟨rfl, hb4⟩
        go_wp2_with fail
        go_ret
        exact ⟨rfl, hbw.trans ((hb.trans (hb4.mono hb.size)).mono hbw.size)⟩
  · have hno : betweenOk low high many = false := by simpa using hok
    have HB : Hid (∀ w, Calls Try.prog 17 #[.int .i64 low, .int .i64 high, .int .i64 many] w (LevelsPost none w)) := Lib.hid fun w => by
      have := between_any low high many w
      rw [between_no hno] at this
      exact this
    have HR : Hid (∀ w, Calls Try.prog 18 #[.int .i64 low, .int .i64 high, .int .i64 many] w (LevelsPost none w)) := Lib.hid fun w => by
      have := rbetween_any low high many w
      rw [between_no hno] at this
      exact this
    clear hok hno
    go_enter Try.func6, Try.ntmps6
    go_wp2_with fail
    refine (HB.out _).mono ?_
    rintro e w1 ⟨rfl, hb1⟩
    go_wp2_with fail
    refine (HR.out _).mono ?_
    rintro e w2 ⟨rfl, hb2⟩
    go_wp2_with fail
    refine (ints_any 0 0 (.slice none 0 0) (.slice none 0 0) [] [] (by decide) _ (OwnS.nil _ _ _ _) (OwnS.nil _ _ _ _)).mono ?_
    rintro e w3 ⟨rfl, hb3⟩
    rw [show (([] : List Int) == []) = true from rfl]
    have hbw : Below w.heap.size w w3 := (hb1.trans (hb2.mono hb1.size)).trans (hb3.mono (Nat.le_trans hb1.size hb2.size))
    clear hb1 hb2 hb3
    go_wp2_with fail
    go_loopw [11, 40] (fun u i wr => i = .int .i64 0 ∧ u = .int .i64 low ∧ wr = w3) (fun _ i _ => 0)
    case atStart => exact ⟨rfl, rfl, rfl⟩
    case round =>
      obtain ⟨rfl, rfl, rfl⟩ := hrel
      go_wp2_with fail
      refine (alive_any _).mono ?_
      rintro e w4 ⟨rfl, hb4⟩
      go_wp2_with fail
      go_ret
      exact ⟨rfl, hbw.trans (hb4.mono hbw.size)⟩
end Go.Proofs.Ytahdlbckcddeeaa
