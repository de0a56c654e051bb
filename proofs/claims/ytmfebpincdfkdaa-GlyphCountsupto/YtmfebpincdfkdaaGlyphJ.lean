/- WALKS OF THE STATEMENTS OF LAYER 1 (glyph): counting. -/
import Derived.Test.YtmfebpincdfkdaaGlyphI
import Derived.WalkKit
import Derived.WalkSpells
import Derived.WalkLawsBesides
import Derived.Laws.CopyOwn
import Derived.Lib.Hide
import Derived.Lib.Strings
namespace Go.Proofs.Ytmfebpincdfkdaa
open Go.RowKit
set_option linter.unusedVariables false
theorem count_as (s : ByteArray) (n : Int) (hs : s.size ≤ maxLen) (hn : countP s.data.toList = n) (w : World) :
    Calls Try.prog 24 #[.string s] w fun e w' => e = .returned (.int .i64 n) ∧ Below w.heap.size w w' := by
  rw [← hn]; exact count_any s hs w
theorem rcount_as (s : ByteArray) (n : Int) (hs : s.size ≤ 35184372088832) (hn : countP s.data.toList = n) (w : World) :
    Calls Try.prog 25 #[.string s] w fun e w' => e = .returned (.int .i64 n) ∧ Below w.heap.size w w' := by
  rw [← hn]; exact rcount_any s hs w

set_option maxRecDepth 100000 in
set_option maxHeartbeats 2000000 in
theorem counts_any (a b : ByteArray) (hs : a.size ≤ 1048576) (hs2 : b.size ≤ 1048576) (w : World) :
    Calls Try.prog 9 #[.string a, .string b] w fun e w' => e = .returned (.bool true) ∧ Below w.heap.size w w' := by
  have hm : a.size ≤ maxLen := by unfold maxLen; omega
  have hm2 : b.size ≤ maxLen := by unfold maxLen; omega
  have hm3 : (a ++ b).size ≤ maxLen := by rw [app_size]; unfold maxLen; omega
  have hsum : (a.size : Int) + b.size ≤ 9223372036854775807 := by omega
  obtain ⟨n, hn⟩ : ∃ n, countP a.data.toList = n := ⟨_, rfl⟩
  obtain ⟨m, hm'⟩ : ∃ m, countP b.data.toList = m := ⟨_, rfl⟩
  have bn := countP_bd a.data.toList
  have bm := countP_bd b.data.toList
  have la := Lib.size_eq a
  have lb := Lib.size_eq b
  have hb1 : -1 ≤ n ∧ n ≤ 1048576 := by omega
  have hb2 : -1 ≤ m ∧ m ≤ 1048576 := by omega
  obtain ⟨n1, n2⟩ := hb1
  obtain ⟨m1, m2⟩ := hb2
  have HN := Lib.hid hn
  have HM := Lib.hid hm'
  clear bn bm la lb
  by_cases c1 : n < 0
  · clear hn hm'
    go_enter Try.func9, Try.ntmps9
    go_wp2_with fail
    refine (count_as _ n hm HN.out _).mono ?_
    rintro e w1 ⟨rfl, hb1⟩
    go_wp2_with fail
    refine (count_as _ m hm2 HM.out _).mono ?_
    rintro e w2 ⟨rfl, hb2⟩
    go_wp2_with fail
    refine (alive_any _).mono ?_
    rintro e w3 ⟨rfl, hb3⟩
    go_wp2_with fail
    refine (rcount_as _ n (by omega) HN.out _).mono ?_
    rintro e w4 ⟨rfl, hb4⟩
    go_wp2_with fail
    refine (rcount_as _ m (by omega) HM.out _).mono ?_
    rintro e w5 ⟨rfl, hb5⟩
    go_wp2_with fail
    go_ret
    exact ⟨rfl, bel_trans (bel_trans (bel_trans (bel_trans hb1 hb2) hb3) hb4) hb5⟩
  by_cases c2 : m < 0
  · clear hn hm'
    go_enter Try.func9, Try.ntmps9
    go_wp2_with fail
    refine (count_as _ n hm HN.out _).mono ?_
    rintro e w1 ⟨rfl, hb1⟩
    go_wp2_with fail
    refine (count_as _ m hm2 HM.out _).mono ?_
    rintro e w2 ⟨rfl, hb2⟩
    go_wp2_with fail
    refine (alive_any _).mono ?_
    rintro e w3 ⟨rfl, hb3⟩
    go_wp2_with fail
    refine (rcount_as _ n (by omega) HN.out _).mono ?_
    rintro e w4 ⟨rfl, hb4⟩
    go_wp2_with fail
    refine (rcount_as _ m (by omega) HM.out _).mono ?_
    rintro e w5 ⟨rfl, hb5⟩
    go_wp2_with fail
    go_ret
    exact ⟨rfl, bel_trans (bel_trans (bel_trans (bel_trans hb1 hb2) hb3) hb4) hb5⟩
  · have HS : Hid (countP (a ++ b).data.toList = n + m) := by
      rw [app_list, countP_append (by omega) (by omega), hn, hm']; exact Lib.hid rfl
    clear hn hm'
    go_enter Try.func9, Try.ntmps9
    go_wp2_with fail
    refine (count_as _ n hm HN.out _).mono ?_
    rintro e w1 ⟨rfl, hb1⟩
    go_wp2_with fail
    refine (count_as _ m hm2 HM.out _).mono ?_
    rintro e w2 ⟨rfl, hb2⟩
    go_wp2_with fail
    refine (alive_any _).mono ?_
    rintro e w3 ⟨rfl, hb3⟩
    go_wp2_with fail
    refine (rcount_as _ n (by omega) HN.out _).mono ?_
    rintro e w4 ⟨rfl, hb4⟩
    go_wp2_with fail
    refine (rcount_as _ m (by omega) HM.out _).mono ?_
    rintro e w5 ⟨rfl, hb5⟩
    go_wp2_with fail
    refine (count_as _ (n + m) hm3 HS.out _).mono ?_
    rintro e w6 ⟨rfl, hb6⟩
    go_wp2_with fail
    go_ret
    exact ⟨rfl, bel_trans (bel_trans (bel_trans (bel_trans (bel_trans hb1 hb2) hb3) hb4) hb5) hb6⟩

set_option maxRecDepth 100000 in
set_option maxHeartbeats 2000000 in
theorem steps_long (s : ByteArray) (hs : s.size ≤ 140737488351232) (hl : 20000 < s.size) (w : World) :
    Calls Try.prog 10 #[.string s] w fun e w' => e = .returned (.bool true) ∧ Below w.heap.size w w' := by
  have hl' : (20000 : Int) < s.size := by omega
  go_enter Try.func10, Try.ntmps10
  go_wp2_with fail
  refine (alive_any _).mono ?_
  rintro e w1 ⟨rfl, hb1⟩
  go_wp2_with fail
  go_ret
  exact ⟨rfl, hb1⟩

set_option maxRecDepth 100000 in
set_option maxHeartbeats 4000000 in
theorem steps_short (s : ByteArray) (hl : s.size ≤ 20000) (w : World) :
    Calls Try.prog 10 #[.string s] w fun e w' => e = .returned (.bool true) ∧ Below w.heap.size w w' := by
  have hm : s.size ≤ maxLen := by unfold maxLen; omega
  go_enter Try.func10, Try.ntmps10
  go_wp2_with fail
  go_loopw [3, 4] (fun m v wr => ∃ (t : ByteArray) (k : Nat), v = .string t ∧ m = .int .i64 k ∧ k + t.size ≤ s.size ∧ countFrom k t.data.toList = countP s.data.toList ∧ Below w.heap.size w wr) (fun _ v _ => match v with | .string t => t.size | _ => 0)
  case atStart => exact ⟨s, 0, rfl, rfl, by omega, rfl, Below.refl _ _⟩
  case round =>
    obtain ⟨t, k, rfl, rfl, hk, hc, hb⟩ := hrel
    have HC := Lib.hid hc
    clear hc
    have htm : t.size ≤ maxLen := by unfold maxLen; omega
    by_cases h0 : 0 < t.size
    · have hne := ne_empty h0
      have hl0 := list_ne h0
      have hle := nextP_le t.data.toList
      have hsz := Lib.size_eq t
      by_cases hn : (nextP t.data.toList).2 = 0
      · have HB : Hid (countP s.data.toList = -1) := by rw [← HC.out, countFrom_bad k hl0 hn]; exact Lib.hid rfl
        have HN : Hid (nextP t.data.toList = (-1, 0)) := by rw [← nextP_zero hl0 hn, ← hn]; exact Lib.hid rfl
        clear hl0 hn hle hsz
        go_wp2_with fail
        refine (next_known t _ 0 htm HN.out _).mono ?_
        rintro e w2 ⟨rfl, hb2⟩
        go_wp2_with fail
        refine (alive_any _).mono ?_
        rintro e w3 ⟨rfl, hb3⟩
        go_wp2_with fail
        refine (count_as s _ hm HB.out _).mono ?_
        rintro e w4 ⟨rfl, hb4⟩
        go_wp2_with fail
        go_ret
        exact ⟨rfl, bel_trans (bel_trans (bel_trans hb hb2) hb3) hb4⟩
      · obtain ⟨c, hcc⟩ : ∃ c, c = (nextP t.data.toList).1 := ⟨_, rfl⟩
        obtain ⟨n, hnn⟩ : ∃ n, n = (nextP t.data.toList).2 := ⟨_, rfl⟩
        have HN : Hid (nextP t.data.toList = (c, n)) := by rw [hcc, hnn]; exact Lib.hid rfl
        have HS : Hid (countFrom k t.data.toList = countFrom (k + 1) (t.data.toList.drop n)) := by rw [hnn]; exact countFrom_step k hl0 hn
        have hby := nextP_bytes hn
        rw [← hcc, ← hnn] at hby
        obtain ⟨hch, hpl⟩ := hby
        rw [← hnn] at hn hle
        have hnz : ((n : Int) == 0) = false := by simp; omega
        have hns : n ≤ t.size := by omega
        have hn1 : 1 ≤ n := by omega
        have HP : Hid ((putB c).size = n) := by rw [putB_len hch, hpl, List.length_take]; exact Lib.hid (by omega)
        have hpz : (((putB c).size : Int) != n) = false := by rw [HP.out]; simp
        have heq : (!(t.extract 0 n).toList == (putB c).toList) = false := by
          rw [Lib.extract_toList, Lib.toList_data, putB_list hch, hpl]; simp
        clear hl0 hn hle hsz hnn hcc hpl
        go_wp2_with fail
        refine (next_known t _ _ htm HN.out _).mono ?_
        rintro e w2 ⟨rfl, hb2⟩
        go_wp2_with fail
        refine (put_any _ _).mono ?_
        rintro e w3 ⟨rfl, hb3⟩
        go_wp2_with fail
        go_roundw
        case rel =>
          refine ⟨t.extract n t.size, k + 1, rfl, by go_num, ?_, ?_, bel_trans (bel_trans hb hb2) hb3⟩
          · rw [Lib.size_eq (t.extract n t.size), drop_ext, List.length_drop, ← Lib.size_eq]; omega
          · rw [drop_ext, ← HS.out, HC.out]
        case measure =>
          show (t.extract n t.size).size < t.size
          rw [Lib.size_eq (t.extract n t.size), drop_ext, List.length_drop, ← Lib.size_eq]; omega
    · have hz : t.data.toList = [] := by
        apply List.eq_nil_of_length_eq_zero
        have := Lib.size_eq t
        omega
      have HE : Hid (countP s.data.toList = k) := by rw [← HC.out, hz, countFrom_nil]; exact Lib.hid rfl
      have hem : t.toList.isEmpty = true := by rw [Lib.toList_data, hz]; rfl
      clear hz
      go_wp2_with fail
      refine (alive_any _).mono ?_
      rintro e w3 ⟨rfl, hb3⟩
      go_wp2_with fail
      refine (count_as s _ hm HE.out _).mono ?_
      rintro e w4 ⟨rfl, hb4⟩
      go_wp2_with fail
      go_ret
      exact ⟨rfl, bel_trans (bel_trans hb hb3) hb4⟩
theorem steps_any (s : ByteArray) (hs : s.size ≤ 140737488351232) (w : World) :
    Calls Try.prog 10 #[.string s] w fun e w' => e = .returned (.bool true) ∧ Below w.heap.size w w' := by
  by_cases hl : 20000 < s.size
  · exact steps_long s hs hl w
  · exact steps_short s (by omega) w
end Go.Proofs.Ytmfebpincdfkdaa
