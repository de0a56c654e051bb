/- LAYER 15 (lexicon): the walk of LexiconApart. -/
import Derived.Test.YtoflicfghonhcaaLexLc
namespace Go.Proofs.Ytoflicfghonhcaa
open Go.RowKit Go.WideMaps Go.Maps
set_option linter.unusedVariables false
theorem strCells_set (xs : List ByteArray) (i : Nat) (s : ByteArray) : (strCells xs).set i (.string s) = strCells (xs.set i s) := by
  unfold strCells
  rw [List.map_set]
set_option maxRecDepth 100000 in
set_option maxHeartbeats 2000000 in
theorem lexApart_in (sv tv : Value) (os ms : List LOp) (w : World) (hs : ScriptAt 35184372088832 w w.heap.size sv os) (ht : ScriptAt 35184372088832 w w.heap.size tv ms) (h1 : os.length ≤ 200) (h2 : ms.length ≤ 200) : Calls Try.prog 7 #[sv, tv] w fun e w' => e = .returned (.bool true) ∧ Below w.heap.size w w' := by
  have HS := Lib.hid hs
  have HT := Lib.hid ht
  obtain ⟨⟨sa, sc, rfl, _⟩, _⟩ := hs
  obtain ⟨⟨ta, tc, rfl, _⟩, _⟩ := ht
  obtain ⟨n, hn⟩ : ∃ n, n = os.length := ⟨_, rfl⟩
  obtain ⟨m, hm⟩ : ∃ m, m = ms.length := ⟨_, rfl⟩
  have HN := Lib.hid hn
  have HM := Lib.hid hm
  rw [← hn] at HS h1 ⊢
  rw [← hm] at HT h2 ⊢
  clear hn hm
  have z1 : ¬ (200 : Int) < (n : Int) := by omega
  have z2 : ¬ (200 : Int) < (m : Int) := by omega
  go_enter Try.func7, Try.ntmps7
  go_wp2_with fail
  refine (new_L w).mono ?_
  rintro e w1 ⟨p, rfl, H1, hb1⟩
  have H1 := Lib.hid H1
  have HS1 := Lib.hid (HS.out.below hb1)
  go_wp2_with fail
  refine (plays_L H1.out (docAt_nil w1) HS1.out (by rw [← HN.out]; omega)).mono ?_
  rintro e w2 ⟨lv, l, ws, rfl, H2, hd2, ht2⟩
  rw [← HN.out, Nat.zero_add] at H2
  have H2 := Lib.hid H2
  have hd2 := Lib.hid hd2
  have hb2 := hb1.trans ht2.below
  clear hb1 ht2 HS1 H1
  obtain ⟨va, vc, rfl⟩ := OwnS.len hd2.out
  go_wp2_with fail
  refine (clone_L H2.out (by omega)).mono ?_
  rintro e w3 ⟨pc, rfl, HC3, hb3⟩
  have HC3 := Lib.hid HC3
  have hd3 := Lib.hid (hd2.out.below hb3)
  have HT3 := Lib.hid ((HT.out.below (hb2.trans (hb3.mono hb2.size))).mono hb2.size)
  go_wp2_with fail
  refine (plays_L HC3.out hd3.out HT3.out (by rw [← HM.out]; omega)).mono ?_
  rintro e w4 ⟨mv, lm, wsm, rfl, HC4, hdm, ht4⟩
  rw [← HM.out] at HC4
  have HC4 := Lib.hid HC4
  have hdm := Lib.hid hdm
  have hb4 : Below w2.heap.size w2 w4 := hb3.trans ht4.below
  have H4 := Lib.hid (H2.out.below hb4)
  have hd4 := Lib.hid (hd2.out.below hb4)
  have hb5 := Lib.hid (hb2.trans (hb4.mono hb2.size))
  obtain ⟨vb, vd, rfl⟩ := OwnS.len hdm.out
  clear hb2 hb3 hb4 ht4 H2 hd2 HC3 hd3 HT3
  go_wp2_with fail
  refine (all_L H4.out (by omega)).mono ?_
  rintro e w5 ⟨v, rfl, HST, hb6⟩
  obtain ⟨xs, hxs⟩ : ∃ xs, xs = allD l (topD l) := ⟨_, rfl⟩
  rw [← hxs] at HST
  have hHS : Hid (StrsAt w5 w4.heap.size v xs) := Lib.hid HST
  obtain ⟨vx, vy, rfl⟩ := OwnS.len HST
  obtain ⟨k, hk⟩ : ∃ k, k = xs.length := ⟨_, rfl⟩
  have hkb : k ≤ 1000 := by rw [hk, hxs, allD_len]; have := H4.out.topLen; omega
  rw [← hk] at hHS
  have HK := Lib.hid hk
  have hb6 := Lib.hid hb6
  clear HST hxs hk
  rw [← HK.out]
  go_wp2_with fail
  obtain ⟨wo, hwo⟩ : ∃ wo : World, wo = w5 := ⟨_, rfl⟩
  go_loopw [56] (fun i wr => ∃ (j : Nat) (ys : List ByteArray), j ≤ k ∧ i = .int .i64 (j : Int) ∧ Hid (k = ys.length) ∧ Hid (StrsAt wr w4.heap.size (.slice vx k vy) ys) ∧ Hid (Below w4.heap.size w4 wr)) (fun i _ => k - (intOf i).toNat)
  case atStart => exact ⟨0, xs, Nat.zero_le _, rfl, HK, hHS, hb6⟩
  case round =>
    clear hHS hb6 hwo
    obtain ⟨j, ys, hj, rfl, HY, HYS, Hb⟩ := hrel
    by_cases hlt : j < k
    · have hys := HYS.out
      rw [HY.out] at hys
      obtain ⟨g, cp, hv, hBg, hg, _⟩ := OwnS.shape hys (by rw [← HY.out]; omega)
      cases hv
      have d0 := hys.cells j (by rw [← HY.out]; exact hlt)
      have f0 := OwnS.frozenAt hys j
      have hnew : StrsAt (wr.setCell ⟨g, j, none⟩ (.string ⟨#[109, 105, 110, 101]⟩)) w4.heap.size (.slice (some ⟨g, 0, none⟩) k vy) (ys.set j ⟨#[109, 105, 110, 101]⟩) := by
        have := ownS_store hys j (.string ⟨#[109, 105, 110, 101]⟩) (by rw [← HY.out]; omega)
        rw [strCells_set] at this
        unfold StrsAt
        rw [List.length_set, HY.out]
        exact this
      have HNW := Lib.hid hnew
      clear hnew hys
      go_wp2_with fail
      go_roundw
      case rel => exact ⟨j + 1, _, by omega, by go_num, by rw [List.length_set]; exact HY, HNW, Lib.hid (Hb.out.setCell (by exact hBg) _)⟩
      case measure => simp [intOf]; omega
    · obtain rfl : j = k := by omega
      have H6 := Lib.hid (H4.out.below Hb.out)
      have hd6 := Lib.hid (hd4.out.below Hb.out)
      have HC6 := Lib.hid (HC4.out.below Hb.out)
      have hdm6 := Lib.hid (hdm.out.below Hb.out)
      have hb7 := Lib.hid (hb5.out.trans (Hb.out.mono hb5.out.size))
      clear H4 hd4 HC4 hdm Hb hb5
      go_wp2_with fail
      refine (alive_any _).mono ?_
      rintro e w7 ⟨rfl, hb8⟩
      have H7 := Lib.hid (H6.out.below hb8)
      have hd7 := Lib.hid (hd6.out.below hb8)
      have HC7 := Lib.hid (HC6.out.below hb8)
      have hdm7 := Lib.hid (hdm6.out.below hb8)
      have hb9 := Lib.hid (hb7.out.trans (hb8.mono hb7.out.size))
      clear H6 hd6 HC6 hdm6 hb8 hb7
      go_wp2_with fail
      refine (stands_L HC7.out hdm7.out (by omega)).mono ?_
      rintro e w8 ⟨rfl, hb10⟩
      have H8 := Lib.hid (H7.out.below hb10)
      have hd8 := Lib.hid (hd7.out.below hb10)
      have hb11 := Lib.hid (hb9.out.trans (hb10.mono hb9.out.size))
      clear H7 hd7 HC7 hdm7 hb10 hb9
      go_wp2_with fail
      refine (stands_L H8.out hd8.out (by omega)).mono ?_
      rintro e w9 ⟨rfl, hb12⟩
      go_wp2_with fail
      go_ret
      exact ⟨rfl, hb11.out.trans (hb12.mono hb11.out.size)⟩
set_option maxRecDepth 100000 in
set_option maxHeartbeats 1000000 in
theorem lexApart_any (sv : Value) (os : List LOp) (tv : Value) (ms : List LOp) (w : World) (hs : ScriptAt 35184372088832 w w.heap.size sv os) (ht : ScriptAt 35184372088832 w w.heap.size tv ms) : Calls Try.prog 7 #[sv, tv] w fun e w' => e = .returned (.bool true) ∧ Below w.heap.size w w' := by
  by_cases h1 : os.length ≤ 200
  · by_cases h2 : ms.length ≤ 200
    · exact lexApart_in sv tv os ms w hs ht h1 h2
    · obtain ⟨⟨sa, sc, rfl, _⟩, _⟩ := hs
      obtain ⟨⟨ta, tc, rfl, _⟩, _⟩ := ht
      generalize os.length = n at *
      generalize ms.length = m at *
      have z1 : ¬ (200 : Int) < (n : Int) := by omega
      have z2 : (200 : Int) < (m : Int) := by omega
      go_enter Try.func7, Try.ntmps7
      go_wp2_with fail
      refine (new_L w).mono ?_
      rintro e w1 ⟨p, rfl, H1, hb1⟩
      have H1 := Lib.hid H1
      go_wp2_with fail
      refine (alive_any _).mono ?_
      rintro e w2 ⟨rfl, hb2⟩
      go_wp2_with fail
      go_ret
      exact ⟨rfl, hb1.trans (hb2.mono hb1.size)⟩
  · obtain ⟨⟨sa, sc, rfl, _⟩, _⟩ := hs
    obtain ⟨⟨ta, tc, rfl, _⟩, _⟩ := ht
    generalize os.length = n at *
    generalize ms.length = m at *
    have z1 : (200 : Int) < (n : Int) := by omega
    go_enter Try.func7, Try.ntmps7
    go_wp2_with fail
    refine (new_L w).mono ?_
    rintro e w1 ⟨p, rfl, H1, hb1⟩
    have H1 := Lib.hid H1
    go_wp2_with fail
    refine (alive_any _).mono ?_
    rintro e w2 ⟨rfl, hb2⟩
    go_wp2_with fail
    go_ret
    exact ⟨rfl, hb1.trans (hb2.mono hb1.size)⟩
end Go.Proofs.Ytoflicfghonhcaa
