/- LAYER 15 (lexicon): the walks of LexiconAll, LexiconAsks, LexiconLeast. -/
import Derived.Test.YtoflicfghonhcaaLexY
namespace Go.Proofs.Ytoflicfghonhcaa
open Go.RowKit Go.WideMaps Go.Maps
set_option linter.unusedVariables false
theorem docAt_nil (w : World) : DocAt w 0 (.slice none 0 0) [] := OwnS.nil _ _ _ _
set_option maxRecDepth 100000 in
set_option maxHeartbeats 1000000 in
theorem lexAll_any (sv : Value) (os : List LOp) (w : World) (hs : ScriptAt 35184372088832 w w.heap.size sv os) : Calls Try.prog 6 #[sv] w fun e w' => e = .returned (.bool true) ∧ Below w.heap.size w w' := by
  have HS := Lib.hid hs
  obtain ⟨⟨sa, sc, rfl, _⟩, _⟩ := hs
  obtain ⟨n, hn⟩ : ∃ n, n = os.length := ⟨_, rfl⟩
  have HN := Lib.hid hn
  rw [← hn] at HS ⊢
  clear hn
  by_cases h : n ≤ 400
  · have h2 : ¬ (400 : Int) < (n : Int) := by omega
    go_enter Try.func6, Try.ntmps6
    go_wp2_with fail
    refine (new_L w).mono ?_
    rintro e w1 ⟨p, rfl, H1, hb1⟩
    have H1 := Lib.hid H1
    have HS1 := Lib.hid (HS.out.below hb1)
    go_wp2_with fail
    refine (plays_L H1.out (docAt_nil w1) HS1.out (by rw [← HN.out]; omega)).mono ?_
    rintro e w2 ⟨lv, l', ws', rfl, H2, hd2, ht2⟩
    rw [← HN.out, Nat.zero_add] at H2
    have H2 := Lib.hid H2
    have hd2 := Lib.hid hd2
    have hb2 := hb1.trans ht2.below
    clear hb1 ht2 HS1 H1
    obtain ⟨va, vc, rfl⟩ := OwnS.len hd2.out
    go_wp2_with fail
    refine (alive_any _).mono ?_
    rintro e w3 ⟨rfl, hb3⟩
    have H3 := Lib.hid (H2.out.below hb3)
    have hd3 := Lib.hid (hd2.out.below hb3)
    have hb4 := hb2.trans (hb3.mono hb2.size)
    clear hb2 hb3 H2 hd2
    go_wp2_with fail
    refine (stands_L H3.out hd3.out (by omega)).mono ?_
    rintro e w4 ⟨rfl, hb5⟩
    go_wp2_with fail
    go_ret
    exact ⟨rfl, hb4.trans (hb5.mono hb4.size)⟩
  · have h2 : (400 : Int) < (n : Int) := by omega
    go_enter Try.func6, Try.ntmps6
    go_wp2_with fail
    refine (new_L w).mono ?_
    rintro e w1 ⟨p, rfl, H1, hb1⟩
    have H1 := Lib.hid H1
    go_wp2_with fail
    refine (alive_any _).mono ?_
    rintro e w2 ⟨rfl, hb2⟩
    go_wp2_with fail
    go_ret
    exact ⟨rfl, hb1.trans (hb2.mono hb1.size)⟩
set_option maxRecDepth 100000 in
set_option maxHeartbeats 1000000 in
theorem lexAsks_any (sv : Value) (os : List LOp) (s : ByteArray) (q : Int) (w : World) (hs : ScriptAt 35184372088832 w w.heap.size sv os) (hz : s.size ≤ maxLen) : Calls Try.prog 4 #[sv, .string s, .int .i64 q] w fun e w' => e = .returned (.bool true) ∧ Below w.heap.size w w' := by
  have HS := Lib.hid hs
  obtain ⟨⟨sa, sc, rfl, _⟩, _⟩ := hs
  obtain ⟨n, hn⟩ : ∃ n, n = os.length := ⟨_, rfl⟩
  have HN := Lib.hid hn
  rw [← hn] at HS ⊢
  clear hn
  by_cases h : n ≤ 400
  · have h2 : ¬ (400 : Int) < (n : Int) := by omega
    go_enter Try.func4, Try.ntmps4
    go_wp2_with fail
    refine (new_L w).mono ?_
    rintro e w1 ⟨p, rfl, H1, hb1⟩
    have H1 := Lib.hid H1
    have HS1 := Lib.hid (HS.out.below hb1)
    go_wp2_with fail
    refine (plays_L H1.out (docAt_nil w1) HS1.out (by rw [← HN.out]; omega)).mono ?_
    rintro e w2 ⟨lv, l', ws', rfl, H2, hd2, ht2⟩
    rw [← HN.out, Nat.zero_add] at H2
    have H2 := Lib.hid H2
    have hd2 := Lib.hid hd2
    have hb2 := hb1.trans ht2.below
    clear hb1 ht2 HS1 H1
    have HL := Lib.hid H2.out.docs.1
    obtain ⟨va, vc, rfl⟩ := OwnS.len hd2.out
    go_wp2_with fail
    refine (find_L H2.out s hz).mono ?_
    rintro e w3 ⟨rfl, rfl⟩
    go_wp2_with fail
    refine (rfind_any 0 _ l' w3 hd2.out (by have := HL.out; omega) s).mono ?_
    rintro e w4 ⟨rfl, rfl⟩
    go_wp2_with fail
    refine (name_L H2.out (by omega) q).mono ?_
    rintro e w5 ⟨rfl, hb3⟩
    have H3 := Lib.hid (H2.out.below hb3)
    have hd3 := Lib.hid (hd2.out.below hb3)
    have hb4 := hb2.trans (hb3.mono hb2.size)
    clear hb2 hb3 H2 hd2
    go_wp2_with fail
    refine (rbname_any 0 _ l' w5 hd3.out (by have := HL.out; omega) q).mono ?_
    rintro e w6 ⟨rfl, rfl⟩
    go_wp2_with fail
    refine (alive_any _).mono ?_
    rintro e w7 ⟨rfl, hb5⟩
    have H4 := Lib.hid (H3.out.below hb5)
    have hd4 := Lib.hid (hd3.out.below hb5)
    have hb6 := hb4.trans (hb5.mono hb4.size)
    clear hb4 hb5 H3 hd3
    go_wp2_with fail
    refine (uses_L H4.out (by omega) q).mono ?_
    rintro e w8 ⟨rfl, hb7⟩
    have hd5 := Lib.hid (hd4.out.below hb7)
    have hb8 := hb6.trans (hb7.mono hb6.size)
    clear hb6 hb7 H4 hd4
    go_wp2_with fail
    refine (ruses_any 0 _ l' w8 hd5.out (by have := HL.out; omega) q).mono ?_
    rintro e w9 ⟨rfl, rfl⟩
    go_wp2_with fail
    go_ret
    exact ⟨rfl, hb8⟩
  · have h2 : (400 : Int) < (n : Int) := by omega
    go_enter Try.func4, Try.ntmps4
    go_wp2_with fail
    refine (new_L w).mono ?_
    rintro e w1 ⟨p, rfl, H1, hb1⟩
    have H1 := Lib.hid H1
    go_wp2_with fail
    refine (alive_any _).mono ?_
    rintro e w2 ⟨rfl, hb2⟩
    go_wp2_with fail
    go_ret
    exact ⟨rfl, hb1.trans (hb2.mono hb1.size)⟩
end Go.Proofs.Ytoflicfghonhcaa
