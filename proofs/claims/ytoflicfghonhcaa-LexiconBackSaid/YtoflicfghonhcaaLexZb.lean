/- LAYER 15 (lexicon): the walk of LexiconLoads. -/
import Derived.Test.YtoflicfghonhcaaLexZ
import Derived.Test.YtoflicfghonhcaaLexLb
namespace Go.Proofs.Ytoflicfghonhcaa
open Go.RowKit Go.WideMaps Go.Maps
set_option linter.unusedVariables false
theorem loadD_err : ∀ (xs : List ByteArray) (i : Nat) (out : List DW), ((loadD xs i out).1 = none → ((loadD xs i out).2 == 0) = false) ∧ (∀ l, (loadD xs i out).1 = some l → (loadD xs i out).2 = 0)
  | [], i, out => ⟨fun h => (by cases h), fun l _ => rfl⟩
  | s :: r, i, out => by
    by_cases h4 : 4000 ≤ i
    · rw [loadD_full s r i out h4]; exact ⟨fun _ => rfl, fun l h => by cases h⟩
    · by_cases h0 : s = ByteArray.empty
      · subst h0
        rw [loadD_skip r i out h4]
        exact loadD_err r (i + 1) out
      · by_cases hb : nameP s.data.toList = false ∨ 0 ≤ placeD (nameAt s) out
        · rw [loadD_bad s r i out h4 h0 hb]; exact ⟨fun _ => rfl, fun l h => by cases h⟩
        · have e : loadD (s :: r) i out = loadD r (i + 1) (out ++ [(s, i + 1, 1)]) := by rw [loadD, if_neg h4, if_neg h0, if_neg hb]
          rw [e]
          exact loadD_err r (i + 1) _
set_option maxRecDepth 100000 in
set_option maxHeartbeats 1000000 in
theorem lexLoads_any (tv : Value) (xs : List ByteArray) (sv : Value) (os : List LOp) (w : World) (ht : TextsAt 35184372088832 w tv xs) (hs : ScriptAt 35184372088832 w w.heap.size sv os) : Calls Try.prog 9 #[tv, sv] w fun e w' => e = .returned (.bool true) ∧ Below w.heap.size w w' := by
  have HS := Lib.hid hs
  have HT := Lib.hid ht
  obtain ⟨⟨sa, sc, rfl, _⟩, _⟩ := hs
  obtain ⟨⟨ta, tc, rfl, _⟩, _⟩ := ht
  obtain ⟨n, hn⟩ : ∃ n, n = os.length := ⟨_, rfl⟩
  obtain ⟨m, hm⟩ : ∃ m, m = xs.length := ⟨_, rfl⟩
  have HN := Lib.hid hn
  have HM := Lib.hid hm
  rw [← hn] at HS ⊢
  rw [← hm] at HT ⊢
  clear hn hm
  by_cases h : m ≤ 500 ∧ n ≤ 200
  · obtain ⟨h0, h1⟩ := h
    have h2 : ¬ (500 : Int) < (m : Int) := by omega
    have h3 : ¬ (200 : Int) < (n : Int) := by omega
    have HLE := Lib.hid (loadD_err xs 0 [])
    have HLO := Lib.hid (load_L (HT.out.mono (M' := maxLen) (by decide)) (by rw [← HM.out]; omega))
    have HRL := Lib.hid (fun w' (h' : Below w.heap.size w w') => rload_L (HT.out.below h') (by rw [← HM.out]; omega))
    generalize loadD xs 0 [] = R at *
    rw [← HM.out] at HLO
    go_enter Try.func9, Try.ntmps9
    go_wp2_with fail
    refine HLO.out.mono ?_
    rintro e w1 ⟨hb1, ⟨hR, rfl⟩ | ⟨p, ws, l, hR, rfl, H1⟩⟩
    · have he := HLE.out.1 hR
      go_wp2_with fail
      refine (HRL.out _ hb1).mono ?_
      rintro e w2 ⟨hb2, v', rfl, _⟩
      go_wp2_with fail
      refine (alive_any _).mono ?_
      rintro e w3 ⟨rfl, hb3⟩
      have hb4 := hb1.trans (hb2.mono hb1.size)
      go_wp2_with fail
      go_ret
      exact ⟨rfl, hb4.trans (hb3.mono hb4.size)⟩
    · have he := HLE.out.2 l hR
      rw [he] at HRL ⊢
      have H1 := Lib.hid H1
      go_wp2_with fail
      refine (HRL.out _ hb1).mono ?_
      rintro e w2 ⟨hb2, v', rfl, hd⟩
      have hd := Lib.hid (hd l hR)
      have H2 := Lib.hid (H1.out.below hb2)
      have hb4 := hb1.trans (hb2.mono hb1.size)
      obtain ⟨va, vc, rfl⟩ := OwnS.len hd.out
      clear hb1 hb2 H1
      go_wp2_with fail
      refine (stands_L H2.out hd.out (by omega)).mono ?_
      rintro e w3 ⟨rfl, hb3⟩
      have H3 := Lib.hid (H2.out.below hb3)
      have hd3 := Lib.hid (hd.out.below hb3)
      have hb5 := hb4.trans (hb3.mono hb4.size)
      clear hb3 hb4 H2 hd
      go_wp2_with fail
      refine (plays_L H3.out hd3.out (HS.out.below hb5) (by rw [← HN.out]; omega)).mono ?_
      rintro e w4 ⟨lv, l', ws', rfl, H4, hd4, ht4⟩
      rw [← HN.out] at H4
      have H4 := Lib.hid H4
      have hd4 := Lib.hid hd4
      have hb6 := hb5.trans ht4.below
      obtain ⟨va4, vc4, rfl⟩ := OwnS.len hd4.out
      clear hb5 ht4 H3 hd3
      go_wp2_with fail
      refine (alive_any _).mono ?_
      rintro e w5 ⟨rfl, hb7⟩
      have H5 := Lib.hid (H4.out.below hb7)
      have hd5 := Lib.hid (hd4.out.below hb7)
      have hb8 := hb6.trans (hb7.mono hb6.size)
      clear hb6 hb7 H4 hd4
      go_wp2_with fail
      refine (stands_L H5.out hd5.out (by omega)).mono ?_
      rintro e w6 ⟨rfl, hb9⟩
      go_wp2_with fail
      go_ret
      exact ⟨rfl, hb8.trans (hb9.mono hb8.size)⟩
  · by_cases h0 : m ≤ 500
    · have h2 : ¬ (500 : Int) < (m : Int) := by omega
      have h3 : (200 : Int) < (n : Int) := by omega
      go_enter Try.func9, Try.ntmps9
      go_wp2_with fail
      refine (alive_any _).mono ?_
      rintro e w2 ⟨rfl, hb2⟩
      go_wp2_with fail
      go_ret
      exact ⟨rfl, hb2⟩
    · have h2 : (500 : Int) < (m : Int) := by omega
      go_enter Try.func9, Try.ntmps9
      go_wp2_with fail
      refine (alive_any _).mono ?_
      rintro e w2 ⟨rfl, hb2⟩
      go_wp2_with fail
      go_ret
      exact ⟨rfl, hb2⟩
end Go.Proofs.Ytoflicfghonhcaa
