/- WALKS OF THE STATEMENTS OF LAYER 1 (glyph). -/
import Derived.Test.YtmfebpincdfkdaaGlyphG
import Derived.Test.YtmfebpincdfkdaaGlyphH
import Derived.Test.YtmfebpincdfkdaaGlyphPlain5
import Derived.WalkKit
import Derived.WalkSpells
import Derived.WalkLawsBesides
import Derived.Laws.CopyOwn
import Derived.Lib.Hide
import Derived.Lib.Strings
namespace Go.Proofs.Ytmfebpincdfkdaa
open Go.RowKit
set_option linter.unusedVariables false

set_option maxRecDepth 100000 in
set_option maxHeartbeats 1000000 in
theorem order_any (c : Int) (w : World) :
    Calls Try.prog 7 #[.int .i32 c] w fun e w' => e = .returned (.bool true) ∧ Below w.heap.size w w' := by
  cases hs : startB c
  · cases hp : partB c
    · go_enter Try.func7, Try.ntmps7
      go_wp2_with fail
      refine (alive_any _).mono ?_
      rintro e w1 ⟨rfl, hb1⟩
      go_wp2_with fail
      refine (start_any _ _).mono ?_
      rintro e w2 ⟨rfl, hb2⟩
      go_wp2_with fail
      refine (part_any _ _).mono ?_
      rintro e w3 ⟨rfl, hb3⟩
      go_wp2_with fail
      go_ret
      exact ⟨rfl, bel_trans (bel_trans hb1 hb2) hb3⟩
    · have hc := part_char hp
      go_enter Try.func7, Try.ntmps7
      go_wp2_with fail
      refine (alive_any _).mono ?_
      rintro e w1 ⟨rfl, hb1⟩
      go_wp2_with fail
      refine (start_any _ _).mono ?_
      rintro e w2 ⟨rfl, hb2⟩
      go_wp2_with fail
      refine (part_any _ _).mono ?_
      rintro e w3 ⟨rfl, hb3⟩
      go_wp2_with fail
      refine (char_any _ _).mono ?_
      rintro e w4 ⟨rfl, rfl⟩
      go_wp2_with fail
      go_ret
      exact ⟨rfl, bel_trans (bel_trans hb1 hb2) hb3⟩
  · have hp := start_part hs
    have hc := part_char hp
    go_enter Try.func7, Try.ntmps7
    go_wp2_with fail
    refine (alive_any _).mono ?_
    rintro e w1 ⟨rfl, hb1⟩
    go_wp2_with fail
    refine (start_any _ _).mono ?_
    rintro e w2 ⟨rfl, hb2⟩
    go_wp2_with fail
    refine (part_any _ _).mono ?_
    rintro e w3 ⟨rfl, hb3⟩
    go_wp2_with fail
    refine (part_any _ _).mono ?_
    rintro e w4 ⟨rfl, hb4⟩
    go_wp2_with fail
    refine (char_any _ _).mono ?_
    rintro e w5 ⟨rfl, rfl⟩
    go_wp2_with fail
    go_ret
    exact ⟨rfl, bel_trans (bel_trans (bel_trans hb1 hb2) hb3) hb4⟩

set_option maxRecDepth 100000 in
set_option maxHeartbeats 1000000 in
theorem nexts_any (s : ByteArray) (hs : s.size ≤ 140737488351232) (w : World) :
    Calls Try.prog 5 #[.string s] w fun e w' => e = .returned (.bool true) ∧ Below w.heap.size w w' := by
  have hm : s.size ≤ maxLen := by unfold maxLen; omega
  go_enter Try.func5, Try.ntmps5
  go_wp2_with fail
  refine (next_any s hm _).mono ?_
  rintro e w1 ⟨rfl, hb1⟩
  go_wp2_with fail
  refine (rnext_any s hm _).mono ?_
  rintro e w2 ⟨rfl, hb2⟩
  go_wp2_with fail
  refine (alive_any _).mono ?_
  rintro e w3 ⟨rfl, hb3⟩
  go_wp2_with fail
  go_ret
  exact ⟨rfl, bel_trans (bel_trans hb1 hb2) hb3⟩

set_option maxRecDepth 100000 in
set_option maxHeartbeats 1000000 in
theorem names_any (s : ByteArray) (hs : s.size ≤ 1048576) (w : World) :
    Calls Try.prog 6 #[.string s] w fun e w' => e = .returned (.bool true) ∧ Below w.heap.size w w' := by
  have hm : s.size ≤ maxLen := by unfold maxLen; omega
  go_enter Try.func6, Try.ntmps6
  go_wp2_with fail
  refine (alive_any _).mono ?_
  rintro e w1 ⟨rfl, hb1⟩
  go_wp2_with fail
  refine (name_any s hm _).mono ?_
  rintro e w2 ⟨rfl, hb2⟩
  go_wp2_with fail
  refine (rname_any s (by omega) _).mono ?_
  rintro e w3 ⟨rfl, hb3⟩
  go_wp2_with fail
  go_ret
  exact ⟨rfl, bel_trans (bel_trans hb1 hb2) hb3⟩

theorem app_list (a b : ByteArray) : (a ++ b).data.toList = a.data.toList ++ b.data.toList := by
  rw [ByteArray.data_append, Array.toList_append]
theorem app_size (a b : ByteArray) : (a ++ b).size = a.size + b.size := ByteArray.size_append
theorem putB_size (c : Int) : (putB c).size ≤ 4 := by
  unfold putB
  split
  · rw [strOfNums_size]; simp only [putV]; (repeat' split) <;> simp
  · simp
theorem putB_len {c : Int} (h : charB c = true) : (putB c).size = (putL c).length := by rw [Lib.size_eq, putB_list h]
/-- Next of a text whose first character is known. -/
theorem next_known (s : ByteArray) (c : Int) (n : Nat) (hs : s.size ≤ maxLen) (hn : nextP s.data.toList = (c, n)) (w : World) :
    Calls Try.prog 20 #[.string s] w fun e w' => e = .returned (.tuple #[.int .i32 c, .int .i64 n]) ∧ Below w.heap.size w w' := by
  have := next_any s hs w
  rw [hn] at this
  exact this

set_option maxRecDepth 100000 in
set_option maxHeartbeats 1000000 in
theorem puts_any (c : Int) (more : ByteArray) (hs : more.size ≤ 140737488351232) (w : World) :
    Calls Try.prog 4 #[.int .i32 c, .string more] w fun e w' => e = .returned (.bool true) ∧ Below w.heap.size w w' := by
  have hp4 := putB_size c
  have hm : (putB c ++ more).size ≤ maxLen := by rw [app_size]; unfold maxLen; omega
  have hsum : ((putB c).size : Int) + more.size ≤ 9223372036854775807 := by omega
  cases hc : charB c
  · go_enter Try.func4, Try.ntmps4
    go_wp2_with fail
    refine (put_any _ _).mono ?_
    rintro e w1 ⟨rfl, hb1⟩
    go_wp2_with fail
    refine (rput_any _ _).mono ?_
    rintro e w2 ⟨rfl, hb2⟩
    go_wp2_with fail
    refine (next_any _ hm _).mono ?_
    rintro e w3 ⟨rfl, hb3⟩
    go_wp2_with fail
    refine (alive_any _).mono ?_
    rintro e w4 ⟨rfl, hb4⟩
    go_wp2_with fail
    go_ret
    exact ⟨rfl, bel_trans (bel_trans (bel_trans hb1 hb2) hb3) hb4⟩
  · have hn : nextP (putB c ++ more).data.toList = (c, (putB c).size) := by
      rw [app_list, putB_list hc, nextP_put hc, putB_len hc]
    have HN := Lib.hid hn
    clear hn
    go_enter Try.func4, Try.ntmps4
    go_wp2_with fail
    refine (put_any _ _).mono ?_
    rintro e w1 ⟨rfl, hb1⟩
    go_wp2_with fail
    refine (rput_any _ _).mono ?_
    rintro e w2 ⟨rfl, hb2⟩
    go_wp2_with fail
    refine (next_known _ _ _ hm HN.out _).mono ?_
    rintro e w3 ⟨rfl, hb3⟩
    go_wp2_with fail
    refine (alive_any _).mono ?_
    rintro e w4 ⟨rfl, hb4⟩
    go_wp2_with fail
    go_ret
    exact ⟨rfl, bel_trans (bel_trans (bel_trans hb1 hb2) hb3) hb4⟩

set_option maxRecDepth 100000 in
set_option maxHeartbeats 1000000 in
theorem ahead_any (s more : ByteArray) (hs : s.size ≤ 140737488351232) (hs2 : more.size ≤ 140737488351232) (w : World) :
    Calls Try.prog 8 #[.string s, .string more] w fun e w' => e = .returned (.bool true) ∧ Below w.heap.size w w' := by
  have hm : s.size ≤ maxLen := by unfold maxLen; omega
  have hm2 : (s ++ more).size ≤ maxLen := by rw [app_size]; unfold maxLen; omega
  have hsum : (s.size : Int) + more.size ≤ 9223372036854775807 := by omega
  by_cases h0 : (nextP s.data.toList).2 = 0
  · have HN : Hid (nextP s.data.toList = ((nextP s.data.toList).1, 0)) := by rw [← h0]; exact Lib.hid rfl
    clear h0
    go_enter Try.func8, Try.ntmps8
    go_wp2_with fail
    refine (next_known _ _ 0 hm HN.out _).mono ?_
    rintro e w1 ⟨rfl, hb1⟩
    go_wp2_with fail
    refine (alive_any _).mono ?_
    rintro e w4 ⟨rfl, hb4⟩
    go_wp2_with fail
    go_ret
    exact ⟨rfl, bel_trans hb1 hb4⟩
  · obtain ⟨c, hc⟩ : ∃ c, c = (nextP s.data.toList).1 := ⟨_, rfl⟩
    obtain ⟨n, hn⟩ : ∃ n, n = (nextP s.data.toList).2 := ⟨_, rfl⟩
    have HN : Hid (nextP s.data.toList = (c, n)) := by rw [hc, hn]; exact Lib.hid rfl
    have HN2 : Hid (nextP (s ++ more).data.toList = (c, n)) := by rw [app_list, nextP_append h0]; exact HN
    have HN3 : Hid (nextP (s.extract 0 n).data.toList = (c, n)) := by
      rw [Lib.extract_data, List.drop_zero, Nat.sub_zero, hn, nextP_take h0, ← hn]; exact HN
    have hle := nextP_le s.data.toList
    rw [← hn] at h0 hle
    have hns : n ≤ s.size := by rw [Lib.size_eq]; exact hle
    have hnz : ((n : Int) == 0) = false := by simp; omega
    have hm3 : (s.extract 0 n).size ≤ maxLen := by rw [Lib.size_eq, Lib.extract_data, List.length_take, List.length_drop]; unfold maxLen; omega
    clear hc hn h0 hle
    go_enter Try.func8, Try.ntmps8
    go_wp2_with fail
    refine (next_known _ _ _ hm HN.out _).mono ?_
    rintro e w1 ⟨rfl, hb1⟩
    go_wp2_with fail
    refine (next_known _ _ _ hm2 HN2.out _).mono ?_
    rintro e w2 ⟨rfl, hb2⟩
    go_wp2_with fail
    refine (next_known _ _ _ hm3 HN3.out _).mono ?_
    rintro e w3 ⟨rfl, hb3⟩
    go_wp2_with fail
    refine (alive_any _).mono ?_
    rintro e w4 ⟨rfl, hb4⟩
    go_wp2_with fail
    go_ret
    exact ⟨rfl, bel_trans (bel_trans (bel_trans hb1 hb2) hb3) hb4⟩
end Go.Proofs.Ytmfebpincdfkdaa
