/- LAYER 15 (lexicon): the walk of LexiconFull. -/
import Derived.Test.YtoflicfghonhcaaLexV
namespace Go.Proofs.Ytoflicfghonhcaa
open Go.RowKit Go.WideMaps Go.Maps
set_option linter.unusedVariables false
def nameI (i : Nat) : ByteArray := ⟨#[110, UInt8.ofNat (97 + i % 26), UInt8.ofNat (97 + i / 26 % 26), UInt8.ofNat (97 + i / 676)]⟩
theorem u8_small {a b : Nat} (ha : a < 256) (hb : b < 256) (h : UInt8.ofNat a = UInt8.ofNat b) : a = b := by
  have := congrArg UInt8.toNat h
  simp at this
  omega
theorem nameI_eq (k : Nat) : (⟨#[110]⟩ : ByteArray) ++ strOfNums [97 + (k : Int) % 26, 97 + (k : Int) / 26 % 26, 97 + (k : Int) / 676] = nameI k := by
  have e1 : (97 + (k : Int) % 26).toNat = 97 + k % 26 := by omega
  have e2 : (97 + (k : Int) / 26 % 26).toNat = 97 + k / 26 % 26 := by omega
  have e3 : (97 + (k : Int) / 676).toNat = 97 + k / 676 := by omega
  have : strOfNums [97 + (k : Int) % 26, 97 + (k : Int) / 26 % 26, 97 + (k : Int) / 676] = ⟨#[UInt8.ofNat (97 + k % 26), UInt8.ofNat (97 + k / 26 % 26), UInt8.ofNat (97 + k / 676)]⟩ := by
    simp only [strOfNums, List.map_cons, List.map_nil, e1, e2, e3]
  rw [this]
  rfl
theorem nameI_inj {i j : Nat} (hi : i ≤ 5000) (hj : j ≤ 5000) (h : nameI i = nameI j) : i = j := by
  simp only [nameI, ByteArray.mk.injEq, Array.mk.injEq, List.cons.injEq, and_true, true_and] at h
  obtain ⟨h1, h2, h3⟩ := h
  have h1 := u8_small (by omega) (by omega) h1
  have h2 := u8_small (by omega) (by omega) h2
  have h3 := u8_small (by omega) (by omega) h3
  omega
theorem nameI_good (i : Nat) (hi : i ≤ 5000) : nameP (nameI i).data.toList = true := by
  refine name_lower _ (by simp [nameI]) (by simp [nameI]) fun a ha => ?_
  simp only [nameI, List.mem_cons, List.not_mem_nil, or_false] at ha
  rcases ha with rfl | rfl | rfl | rfl
  · decide
  · rw [UInt8.toNat_ofNat']; omega
  · rw [UInt8.toNat_ofNat']; omega
  · rw [UInt8.toNat_ofNat']; omega
def fullL (i : Nat) : List DW := (List.range i).map (fun j => (nameI j, j + 1, 1))
theorem fullL_len (i : Nat) : (fullL i).length = i := by simp [fullL]
theorem fullL_succ (i : Nat) : fullL (i + 1) = fullL i ++ [(nameI i, i + 1, 1)] := by simp [fullL, List.range_succ]
theorem fullL_least (i : Nat) : IsLeast (fullL i) (i + 1) := by
  refine ⟨by omega, fun x hx => ?_, fun n h1 h2 => ?_⟩
  · obtain ⟨j, hj, rfl⟩ := List.mem_map.1 hx
    have := List.mem_range.1 hj
    dsimp only
    omega
  · exact ⟨_, List.mem_map.2 ⟨n - 1, List.mem_range.2 (by omega), rfl⟩, by dsimp only; omega⟩
theorem fullL_place (m i : Nat) (hm : m ≤ i) (hi : i ≤ 5000) : placeD (nameAt (nameI i)) (fullL m) = -1 := by
  rcases placeD_spec (nameAt (nameI i)) (fullL m) with ⟨h1, _⟩ | ⟨j, h1, h2, h3⟩
  · exact h1
  · rw [fullL_len] at h1
    have e : (fullL m).getD j default = (nameI j, j + 1, 1) := by simp [fullL, h1]
    rw [e] at h3
    simp only [nameAt, decide_eq_true_eq] at h3
    have := nameI_inj (by omega) hi h3
    omega
theorem full_add (i : Nat) (hi : i < 4100) (N : Nat) (hN : i < 4000 → N = i + 1) : addD N (fullL (min i 4000)) (nameI i) = (fullL (min (i + 1) 4000), if i < 4000 then ((i : Int) + 1, 0) else (0, 150)) := by
  have hp := fullL_place (min i 4000) i (Nat.min_le_left _ _) (by omega)
  have hn := nameI_good i (by omega)
  have hl := fullL_len (min i 4000)
  by_cases h : i < 4000
  · rw [addD_new hn hp (by omega), hN h, if_pos h, show min i 4000 = i by omega, show min (i + 1) 4000 = i + 1 by omega, fullL_succ]
    simp
  · unfold addD
    rw [if_neg (by simp [hn]), if_neg (by omega), if_pos (by omega), if_neg h, show min (i + 1) 4000 = min i 4000 by omega]
theorem lexFull_out (many : Int) (w : World) (h : many < 0 ∨ 4100 < many) : Calls Try.prog 3 #[.int .i64 many] w fun e w' => e = .returned (.bool true) ∧ Below w.heap.size w w' := by
  rcases h with h | h
  · go_enter Try.func3, Try.ntmps3
    go_wp2_with fail
    refine (new_L w).mono ?_
    rintro e w1 ⟨p, rfl, H1, hb1⟩
    have H1 := Lib.hid H1
    go_wp2_with fail
    refine (alive_any _).mono ?_
    rintro e w2 ⟨rfl, hb2⟩
    go_wp2_with fail
    go_ret
    exact ⟨rfl, hb1.trans (hb2.mono hb1.size)⟩
  · have h2 : ¬ many < 0 := by omega
    go_enter Try.func3, Try.ntmps3
    go_wp2_with fail
    refine (new_L w).mono ?_
    rintro e w1 ⟨p, rfl, H1, hb1⟩
    have H1 := Lib.hid H1
    go_wp2_with fail
    refine (alive_any _).mono ?_
    rintro e w2 ⟨rfl, hb2⟩
    go_wp2_with fail
    go_ret
    exact ⟨rfl, hb1.trans (hb2.mono hb1.size)⟩
set_option maxRecDepth 100000 in
set_option maxHeartbeats 1000000 in
theorem lexFull_in (n : Nat) (hn : n ≤ 4100) (w : World) : Calls Try.prog 3 #[.int .i64 (n : Int)] w fun e w' => e = .returned (.bool true) ∧ Below w.heap.size w w' := by
  have h1 : ¬ (n : Int) < 0 := by omega
  have h2 : ¬ (4100 : Int) < (n : Int) := by omega
  go_enter Try.func3, Try.ntmps3
  go_wp2_with fail
  refine (new_L w).mono ?_
  rintro e w1 ⟨p, rfl, H1, hb1⟩
  have H1 := Lib.hid H1
  go_wp2_with fail
  go_loopw [25] (fun i wr => ∃ (k : Nat) (ws : WS), k ≤ n ∧ i = .int .i64 (k : Int) ∧ Hid (BookL wr w.heap.size p k ws (fullL (min k 4000))) ∧ Hid (Below w.heap.size w wr)) (fun i _ => n - (intOf i).toNat)
  case atStart => exact ⟨0, [], Nat.zero_le _, rfl, H1, Lib.hid hb1⟩
  case round =>
    obtain ⟨k, ws, hk, rfl, HB, Hb⟩ := hrel
    by_cases hlt : k < n
    · have hcv := fun a b c => conv_new3 wr a b c
      have hbl := (HB.out.docs).2.2.2.2.2
      have hadd := full_add k (by omega) (freeW ws) fun h4 => isLeast_unique HB.out.docs.2.2.1 (by rw [show min k 4000 = k by omega]; exact fullL_least k)
      have HA := Lib.hid hadd
      clear hadd hbl
      go_wp2_with fail
      rw [nameI_eq]
      have HBa := Lib.hid (HB.out.below ((Below.refl _ _).alloc (Nat.le_refl _) (.cells #[.int .u8 (97 + (k : Int) % 26), .int .u8 (97 + (k : Int) / 26 % 26), .int .u8 (97 + (k : Int) / 676)] 5)))
      have hba := Hb.out.trans (((Below.refl _ _).alloc (Nat.le_refl _) (.cells #[.int .u8 (97 + (k : Int) % 26), .int .u8 (97 + (k : Int) / 26 % 26), .int .u8 (97 + (k : Int) / 676)] 5)).mono Hb.out.size)
      refine (add_L HBa.out (by omega) (nameI k) (by simp [nameI, ByteArray.size, maxLen])).mono ?_
      rw [HA.out]
      by_cases h4 : k < 4000
      · rw [if_pos h4]
        rintro e w2 ⟨rfl, ⟨ws2, H2⟩, hb2⟩
        have H2 := Lib.hid H2
        have hb3 := Lib.hid (hba.trans hb2.below)
        clear hba hb2 HBa HB Hb hcv
        go_wp2_with fail
        go_roundw
        case rel => exact ⟨k + 1, ws2, by omega, by go_num, H2, hb3⟩
        case measure => simp [intOf]; omega
      · rw [if_neg h4]
        rintro e w2 ⟨rfl, ⟨ws2, H2⟩, hb2⟩
        have H2 := Lib.hid H2
        have hb3 := Lib.hid (hba.trans hb2.below)
        clear hba hb2 HBa HB Hb hcv
        go_wp2_with fail
        go_roundw
        case rel => exact ⟨k + 1, ws2, by omega, by go_num, H2, hb3⟩
        case measure => simp [intOf]; omega
    · obtain rfl : k = n := by omega
      by_cases h4 : k ≤ 4000
      · go_wp2_with fail
        refine (alive_any _).mono ?_
        rintro e w2 ⟨rfl, hb2⟩
        have HB2 := Lib.hid (len_L (HB.out.below hb2))
        rw [fullL_len, Nat.min_eq_left h4] at HB2
        go_wp2_with fail
        refine HB2.out.mono ?_
        rintro e w3 ⟨rfl, rfl⟩
        have h5 : ¬ (4000 : Int) < (k : Int) := by omega
        go_wp2_with fail
        go_ret
        exact ⟨rfl, Hb.out.trans (hb2.mono Hb.out.size)⟩
      · go_wp2_with fail
        refine (alive_any _).mono ?_
        rintro e w2 ⟨rfl, hb2⟩
        have HB2 := Lib.hid (len_L (HB.out.below hb2))
        rw [fullL_len, Nat.min_eq_right (by omega)] at HB2
        go_wp2_with fail
        refine HB2.out.mono ?_
        rintro e w3 ⟨rfl, rfl⟩
        have h5 : (4000 : Int) < (k : Int) := by omega
        go_wp2_with fail
        go_ret
        exact ⟨rfl, Hb.out.trans (hb2.mono Hb.out.size)⟩
theorem lexFull_any (many : Int) (w : World) : Calls Try.prog 3 #[.int .i64 many] w fun e w' => e = .returned (.bool true) ∧ Below w.heap.size w w' := by
  by_cases h : many < 0 ∨ 4100 < many
  · exact lexFull_out many w h
  · obtain ⟨n, rfl⟩ : ∃ n : Nat, many = (n : Int) := ⟨many.toNat, by omega⟩
    exact lexFull_in n (by omega) w
end Go.Proofs.Ytoflicfghonhcaa
