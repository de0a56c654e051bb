/- LAYER 13 (tabula): TabulaEnds. -/
import Derived.Test.YtdgapagpmdfndaaTabM2
namespace Go.Proofs.Ytdgapagpmdfndaa
open Go.RowKit
set_option linter.unusedVariables false
theorem rank_le {l : List Row} (hs : Sorted l) {key : Int} (h : ∀ x ∈ l, key ≤ x.1) : rankL l key = 0 := by
  unfold rankL
  rw [filter_none fun x hx => by have := h x hx; simp; omega]
  rfl
theorem sorted_first {l : List Row} (hs : Sorted l) : ∀ x ∈ l, (l.getD 0 default).1 ≤ x.1 := by
  intro x hx
  obtain ⟨i, hi, rfl⟩ := mem_getD hx
  rcases Nat.eq_zero_or_pos i with rfl | h
  · exact Int.le_refl _
  · exact Int.le_of_lt (sorted_get hs h hi)
/-- From below all the first row is next. -/
theorem next_first {l : List Row} (hs : Sorted l) (h0 : 0 < l.length) {key : Int} (hk : key ≤ (l.getD 0 default).1) : atV l (rankL l key : Nat) = ((l.getD 0 default).1, (l.getD 0 default).2, true) := by
  rw [rank_le hs fun x hx => Int.le_trans hk (sorted_first hs x hx)]
  exact atV_in h0
/-- From above all the last one is back. -/
theorem back_last {l : List Row} (hs : Sorted l) {m : Nat} (h0 : l.length = m + 1) {key : Int} (hk : (l.getD m default).1 ≤ key) : backV l key = ((l.getD m default).1, (l.getD m default).2, true) := by
  rw [← back_le hs key, leL_all fun x hx => by have := sorted_last hs x hx; unfold lastK at this; rw [h0] at this; simp only [Nat.add_sub_cancel] at this; omega, h0]
  have e : ((m + 1 : Nat) : Int) - 1 = (m : Nat) := by omega
  rw [e, atV_in (by omega)]
/-- Between two neighbours there is none. -/
theorem next_between {l : List Row} (hs : Sorted l) {j : Nat} (h : j + 1 < l.length) : atV l (rankL l ((l.getD j default).1 + 1) : Nat) = ((l.getD (j + 1) default).1, (l.getD (j + 1) default).2, true) := by
  obtain ⟨h1, h2, h3⟩ := exists_cut' hs ((l.getD j default).1 + 1)
  have e : rankL l ((l.getD j default).1 + 1) = j + 1 := by
    rcases Nat.lt_trichotomy (rankL l ((l.getD j default).1 + 1)) (j + 1) with hh | hh | hh
    · have a := h3 j (by omega) (by omega)
      omega
    · exact hh
    · have a := h2 (j + 1) hh
      have b := sorted_get hs (Nat.lt_succ_self j) h
      have c : (l.getD j.succ default).1 = (l.getD (j + 1) default).1 := rfl
      omega
  rw [e]
  exact atV_in h
set_option maxRecDepth 100000 in
set_option maxHeartbeats 4000000 in
theorem tabEnds_any (v : Value) (os : List TOp) (w : World) (h : ScriptAt w w.heap.size v os) :
    Calls Try.prog 7 #[v] w fun e w' => e = .returned (.bool true) ∧ Below w.heap.size w w' := by
  have HNEW := Lib.hid (new_L w w.heap.size (Nat.le_refl _))
  obtain ⟨a, cap, rfl⟩ := h.len
  obtain ⟨n, hn⟩ : ∃ n, n = os.length := ⟨_, rfl⟩
  rw [← hn] at h ⊢
  have H := Lib.hid h
  have HN := Lib.hid hn
  clear h hn
  by_cases hl : 1500 < n
  · go_enter Try.func7, Try.ntmps7
    go_wp2_with fail
    refine HNEW.out.mono ?_
    rintro e w1 ⟨t, F, rfl, ht, _, hb1⟩
    have HB1 := Lib.hid hb1
    have HAL := Lib.hid (alive_any w1)
    clear ht hb1
    go_wp2_with fail
    refine HAL.out.mono ?_
    rintro e w2 ⟨rfl, hb2⟩
    have HB2 := Lib.hid (HB1.out.trans (hb2.mono HB1.out.size))
    clear hb2
    go_wp2_with fail
    go_ret
    exact ⟨rfl, HB2.out⟩
  · go_enter Try.func7, Try.ntmps7
    go_wp2_with fail
    refine HNEW.out.mono ?_
    rintro e w1 ⟨t, F, rfl, ht, _, hb1⟩
    have HB1 := Lib.hid hb1
    have HP := Lib.hid (plays_L ht (DocAt.nil w1 F) (H.out.below hb1) hb1.size (by simp; have := HN.out; omega))
    clear ht hb1
    go_wp2_with fail
    refine HP.out.mono ?_
    rintro e w2 ⟨lv, F2, rfl, ht2, hd2, hb2, _, _⟩
    generalize playL [] os = l at *
    have HS2 := Lib.hid (St.mk ht2 hd2 (HB1.out.trans hb2))
    have HSR := Lib.hid ht2.srt
    obtain ⟨ll, hll⟩ : ∃ ll, ll = l.length := ⟨_, rfl⟩
    have hmany : ll ≤ 900000 := by rw [hll]; exact ht2.many
    obtain ⟨la, lc, rfl, hcell⟩ := hd2.val
    rw [← hll] at HS2 ⊢
    have HCX := Lib.hid hcell
    clear hcell
    have HL := Lib.hid hll
    clear ht2 hd2 hb2 HP hll
    obtain ⟨⟨x1, x2, x3⟩, hx⟩ : ∃ x, x = atV l (rankL l (-4611686018427387904) : Nat) := ⟨_, rfl⟩
    obtain ⟨⟨y1, y2, y3⟩, hy⟩ : ∃ y, y = backV l 4611686018427387904 := ⟨_, rfl⟩
    have hnx := next_L HS2.out.tab (-4611686018427387904)
    rw [← hx] at hnx
    unfold atR at hnx
    have HNX := Lib.hid hnx
    have HX := Lib.hid (And.intro hx hy)
    clear hnx hx hy
    go_wp2_with fail
    refine HNX.out.mono ?_
    rintro e w3 ⟨rfl, hb3⟩
    have HS3 := Lib.hid (HS2.out.step hb3)
    have HB3 := Lib.hid hb3
    clear hb3
    have hbk := back_L HS3.out.tab 4611686018427387904
    rw [← HX.out.2] at hbk
    unfold atR at hbk
    have HBK := Lib.hid hbk
    clear hbk
    go_wp2_with fail
    refine HBK.out.mono ?_
    rintro e w4 ⟨rfl, hb4⟩
    have HS4 := Lib.hid (HS3.out.step hb4)
    have HB4 := Lib.hid (HB3.out.trans (hb4.mono HB3.out.size))
    clear hb4
    rcases Nat.eq_zero_or_pos ll with h0 | h0
    · subst h0
      have e1 : x3 = false := by
        have := HX.out.1
        rw [atV_out (by have := HL.out; omega)] at this
        exact congrArg (fun x => x.2.2) this
      have e2 : y3 = false := by
        have := HX.out.2
        obtain rfl : l = [] := List.eq_nil_of_length_eq_zero HL.out.symm
        have h2 : backV [] 4611686018427387904 = (0, 0, false) := by decide
        rw [h2] at this
        exact congrArg (fun x => x.2.2) this
      subst e1 e2
      go_wp2_with fail
      go_loopw [12] (fun iv wr => iv = .int .i64 1 ∧ w4 = wr) (fun _ _ => 0)
      case atStart => exact ⟨rfl, rfl⟩
      case round =>
        obtain ⟨rfl, rfl⟩ := hrel
        go_wp2_with fail
        have HAL := Lib.hid (alive_any w4)
        refine HAL.out.mono ?_
        rintro e w5 ⟨rfl, hb5⟩
        have HS5 := Lib.hid (HS4.out.step hb5)
        clear hb5
        go_wp2_with fail
        go_ret
        exact ⟨rfl, HS5.out.bel⟩
    · obtain ⟨m, rfl⟩ : ∃ m, ll = m + 1 := ⟨ll - 1, by omega⟩
      obtain ⟨b, off, hab, hblt, _, hcx⟩ := HCX.out (by rw [← HL.out]; omega)
      subst hab
      have HC := Lib.hid hcx
      obtain ⟨f, hf⟩ : ∃ f, f = (l.getD 0 default).1 := ⟨_, rfl⟩
      obtain ⟨g, hg⟩ : ∃ g, g = (l.getD m default).1 := ⟨_, rfl⟩
      have c0 := (HB4.out.cell (p := ⟨b, off + 0 * 2, none⟩) (by exact hblt)).trans (hcx 0 (by rw [← HL.out]; omega)).1
      have cm := (HB4.out.cell (p := ⟨b, off + m * 2, none⟩) (by exact hblt)).trans (hcx m (by rw [← HL.out]; omega)).1
      rw [← hf, Nat.zero_mul, Nat.add_zero] at c0
      rw [← hg] at cm
      have HFX : Hid (-4611686018427387904 ≤ f → x1 = f ∧ x3 = true) := Lib.hid fun hh => by
        have := HX.out.1
        rw [next_first HSR.out (by rw [← HL.out]; omega) (by rw [← hf]; exact hh), ← hf] at this
        exact ⟨congrArg (fun x => x.1) this, congrArg (fun x => x.2.2) this⟩
      have HGY : Hid (g ≤ 4611686018427387904 → y1 = g ∧ y3 = true) := Lib.hid fun hh => by
        have := HX.out.2
        rw [back_last HSR.out HL.out.symm (by rw [← hg]; exact hh), ← hg] at this
        exact ⟨congrArg (fun x => x.1) this, congrArg (fun x => x.2.2) this⟩
      have HB0 := Lib.hid (And.intro HS4.out HB4.out)
      have hbw : b < w2.heap.size := hblt
      clear hcx hf hg hblt HS2 HS3 HS4 HB3 HB4 HNX HBK HX HCX
      have key : (-4611686018427387904 ≤ f ∧ g ≤ 4611686018427387904 ∧ x1 = f ∧ x3 = true ∧ y1 = g ∧ y3 = true) ∨ (f < -4611686018427387904) ∨ (-4611686018427387904 ≤ f ∧ 4611686018427387904 < g) := by
        by_cases h1 : -4611686018427387904 ≤ f
        · by_cases h2 : g ≤ 4611686018427387904
          · obtain ⟨a1, a2⟩ := HFX.out h1
            obtain ⟨a3, a4⟩ := HGY.out h2
            exact .inl ⟨h1, h2, a1, a2, a3, a4⟩
          · exact .inr (.inr ⟨h1, by omega⟩)
        · exact .inr (.inl (by omega))
      clear HFX HGY
      rcases key with ⟨h1, h2, rfl, rfl, rfl, rfl⟩ | h1 | ⟨h1, h2⟩
      all_goals
        go_wp2_with fail
        go_loopw [12] (fun iv wr => ∃ j : Nat, j ≤ m ∧ iv = .int .i64 ((j + 1 : Nat) : Int) ∧ Hid (St w t l F2 (.slice (some ⟨b, off, none⟩) (m + 1) lc) wr ∧ Below w2.heap.size w2 wr)) (fun iv _ => m + 2 - (intOf iv).toNat)
        case atStart => exact ⟨0, Nat.zero_le _, rfl, HB0⟩
        case round =>
          obtain ⟨j, hj, rfl, HM⟩ := hrel
          clear c0 cm
          by_cases hjm : j < m
          · have cy := (HM.out.2.cell (p := ⟨b, off + j * 2, none⟩) (by exact hbw)).trans (HC.out j (by rw [← HL.out]; omega)).1
            have cz := (HM.out.2.cell (p := ⟨b, off + (j + 1) * 2, none⟩) (by exact hbw)).trans (HC.out (j + 1) (by rw [← HL.out]; omega)).1
            have hnx := next_L HM.out.1.tab ((l.getD j default).1 + 1)
            rw [next_between HSR.out (by rw [← HL.out]; omega)] at hnx
            unfold atR at hnx
            generalize (l.getD (j + 1) default).1 = z at *
            generalize (l.getD (j + 1) default).2 = z2 at *
            generalize (l.getD j default).1 = y at *
            have HNX := Lib.hid hnx
            clear hnx
            have j1 : (j : Int) < (m : Int) := by omega
            by_cases hk : 4611686018427387904 ≤ y
            · go_wp2_with fail
              go_roundw
              case rel => exact ⟨j + 1, by omega, by go_num, HM⟩
              case measure => simp [intOf]; omega
            · by_cases hk2 : y < -4611686018427387904
              · go_wp2_with fail
                go_roundw
                case rel => exact ⟨j + 1, by omega, by go_num, HM⟩
                case measure => simp [intOf]; omega
              · go_wp2_with fail
                refine HNX.out.mono ?_
                rintro e w5 ⟨rfl, hb5⟩
                have cz5 := (hb5.cell (p := ⟨b, off + (j + 1) * 2, none⟩) (by exact Nat.lt_of_lt_of_le hbw HM.out.2.size)).trans cz
                have HM5 := Lib.hid (And.intro (HM.out.1.step hb5) (HM.out.2.trans (hb5.mono HM.out.2.size)))
                clear hb5 cy cz
                go_wp2_with fail
                go_roundw
                case rel => exact ⟨j + 1, by omega, by go_num, HM5⟩
                case measure => simp [intOf]; omega
          · obtain rfl : j = m := by omega
            have HAL := Lib.hid (alive_any wr)
            go_wp2_with fail
            refine HAL.out.mono ?_
            rintro e w5 ⟨rfl, hb5⟩
            have HS5 := Lib.hid (HM.out.1.step hb5)
            clear hb5
            go_wp2_with fail
            go_ret
            exact ⟨rfl, HS5.out.bel⟩
end Go.Proofs.Ytdgapagpmdfndaa
