/- WALKS OF LAYER 1 (glyph): Next, the program's. -/
import Derived.Test.YtoflicfghonhcaaGlyphC
import Derived.WalkKit
import Derived.WalkSpells
import Derived.WalkLawsBesides
import Derived.Laws.CopyOwn
import Derived.Lib.Hide
import Derived.Lib.Strings
namespace Go.Proofs.Ytoflicfghonhcaa
open Go.RowKit
set_option linter.unusedVariables false
theorem head_as (x : Int) (n : Nat) (c : Int) (h0 : 0 ≤ x) (h1 : x ≤ 255) (hn : headN x = n) (hc : headC x = c) (w : World) :
    Calls Try.prog 54 #[.int .u8 x] w fun e w' => e = .returned (.tuple #[.int .i64 n, .int .i32 c]) ∧ w = w' := by
  subst hc; rw [← hn]; exact head_any x h0 h1 w
theorem headN_nat (x : Int) : ((headN x).toNat : Int) = headN x := by
  unfold headN; (repeat' split) <;> rfl
theorem headN_le (x : Int) : (headN x).toNat ≤ 4 := by
  unfold headN; (repeat' split) <;> decide
theorem bt_at (s : ByteArray) (i : Nat) (h : i < s.size) : bt s.data.toList i = ((s[i]).toNat : Int) := by
  unfold bt
  have h' : i < s.data.toList.length := by simpa using h
  rw [List.getD_eq_getElem?_getD, List.getElem?_eq_getElem h']
  rfl
theorem ne_empty {s : ByteArray} (h : 0 < s.size) : s.toList.isEmpty = false := by
  rw [Lib.toList_data]
  have e := Lib.size_eq s
  generalize s.data.toList = l at *
  cases l with
  | nil => simp only [List.length_nil] at e; omega
  | cons a l => rfl
theorem list_ne {s : ByteArray} (h : 0 < s.size) : s.data.toList ≠ [] := by
  have e := Lib.size_eq s
  generalize s.data.toList = l at *
  rintro rfl
  simp only [List.length_nil] at e
  omega
theorem ret_ci {a a' : Int} {b b' : Int} (h : a = a') (h' : b = b') : Ending.returned (.tuple #[.int .i32 a, .int .i64 b]) = .returned (.tuple #[.int .i32 a', .int .i64 b']) := by rw [h, h']
/-- The bytes of a piece of a text, in the row that '[]byte(..)' lays. -/
theorem piece_cell (w : World) (s : ByteArray) (a n cap : Nat) (t : TypeId) (fr : Nat × Nat) (hn : n ≤ s.size) (j : Nat) (hj : a + j < n) :
    (w.alloc (.cells (bytesRow (s.extract a n) cap) t fr)).cell? ⟨w.heap.size, j, none⟩ = some (.int .u8 (bt s.data.toList (a + j))) := by
  rw [World.cell?_alloc_mark]
  have e3 := Lib.size_eq s
  have e := Lib.extract_data s a n
  have hl : j < (s.extract a n).data.size := by
    have e2 : (s.extract a n).data.size = ((s.data.toList.drop a).take (n - a)).length := by rw [← e]; simp only [Array.length_toList]
    rw [e2]; simp only [List.length_take, List.length_drop]; omega
  rw [bytesRow_at _ _ _ hl]
  have e4 : (s.extract a n).data[j] = ((s.data.toList.drop a).take (n - a))[j]'(by simp only [List.length_take, List.length_drop]; omega) := by
    rw [← Array.getElem_toList]
    simp only [e]
  rw [e4]
  have h' : a + j < s.data.toList.length := by have e3 := Lib.size_eq s; omega
  simp only [List.getElem_take, List.getElem_drop, bt, List.getD_eq_getElem?_getD, List.getElem?_eq_getElem h', Option.getD_some]

theorem eq_take (s : ByteArray) (x : Int) (n : Nat) (hc : charB x = true) : ((putB x).toList == (s.extract 0 n).toList) = decide (putL x = s.data.toList.take n) := by
  rw [Lib.toList_data, putB_list hc, Lib.extract_toList]
  simp only [List.drop_zero, Nat.sub_zero]
  by_cases h : putL x = s.data.toList.take n
  · rw [h]; simp
  · rw [decide_eq_false h]; simpa using h

set_option maxRecDepth 100000 in
set_option maxHeartbeats 1000000 in
theorem next_main (s : ByteArray) (hs : s.size ≤ maxLen) (hp : 0 < s.size) (n : Nat) (c0 : Int) (r : Int × Nat) (HN : Hid (headN (s[0].toNat) = n)) (HC : Hid (headC (s[0].toNat) = c0)) (hn1 : 1 ≤ n) (hn2 : n ≤ 4) (hn3 : n ≤ s.size)
    (HR : Hid (endG s.data.toList n (foldG s.data.toList (n - 1) 0 c0) = r)) (w : World) :
    Calls Try.prog 49 #[.string s] w fun e w' => e = .returned (.tuple #[.int .i32 r.1, .int .i64 r.2]) ∧ Below w.heap.size w w' := by
  unfold maxLen at hs
  have hne := ne_empty hp
  have hnz : ((n : Int) == 0) = false := by simp; omega
  have hcv := fun w s => run_bytes_of_string (P := Try.prog) w 9 25 5 s Try.underlying9 Try.underlying25 Try.underlying5
  go_enter Try.func49, Try.ntmps49
  go_wp2_with (go_at_call 54; refine (head_as _ n c0 (by omega) (by have := s[0].toNat_lt; omega) HN.out HC.out _).mono ?_; rintro e w1 ⟨rfl, rfl⟩)
  go_loopw [5, 31] (fun c i wr => ∃ k : Nat, ∃ x : Int, k ≤ n - 1 ∧ i = .int .i64 k ∧ c = .int .i32 x ∧ foldG s.data.toList (n - 1 - k) k x = foldG s.data.toList (n - 1) 0 c0 ∧ (∀ j, j < n - 1 → wr.cell? ⟨w.heap.size, j, none⟩ = some (.int .u8 (bt s.data.toList (j + 1)))) ∧ Below w.heap.size w wr) (fun _ i _ => n - 1 - (intOf i).toNat)
  case atStart =>
    refine ⟨0, c0, by omega, rfl, rfl, rfl, fun j hj => ?_, ?_⟩
    · have := piece_cell w s 1 n (grownCap w (n - 1) 0 5) 5 ((bytesRow (s.extract 1 n) (grownCap w (n - 1) 0 5)).size, (bytesRow (s.extract 1 n) (grownCap w (n - 1) 0 5)).size + 1) hn3 j (by omega)
      rw [Nat.add_comm 1 j] at this
      exact this
    · exact ((Below.refl _ _).alloc (Nat.le_refl _) _).drew
  case round =>
    obtain ⟨k, x, hk, rfl, rfl, hf, hcell, hb⟩ := hrel
    have HF := Lib.hid hf
    clear hf
    by_cases hlt : k < n - 1
    · have hc1 := hcell k hlt
      have HCELL := Lib.hid hcell
      have hb0 := bt_bd s.data.toList (k + 1)
      have hfs : Hid (foldG s.data.toList (n - 1 - k) k x = if badB (bt s.data.toList (k + 1)) then none else foldG s.data.toList (n - 1 - (k + 1)) (k + 1) (stepG x (bt s.data.toList (k + 1)))) := by
        have e : n - 1 - k = (n - 1 - (k + 1)) + 1 := by omega
        rw [e]; rfl
      clear hcell hcv HN HC
      go_wp2
      · have hbad : (bits BinOp.and IntKind.u8 (bt s.data.toList (k + 1)) 192 != 128) = true := by assumption
        go_ret2
        refine ⟨?_, hb⟩
        have e := HF.out
        rw [hfs.out, if_pos (show badB _ = true from hbad)] at e
        rw [← HR.out, ← e]
        rfl
      · have hbad : (bits BinOp.and IntKind.u8 (bt s.data.toList (k + 1)) 192 != 128) = false := by assumption
        go_roundw
        case rel =>
          refine ⟨k + 1, stepG x (bt s.data.toList (k + 1)), by omega, by go_num, rfl, ?_, HCELL.out, hb⟩
          rw [← HF.out, hfs.out, if_neg (by rw [show badB _ = false from hbad]; simp)]
        case measure => simp [intOf]; omega
    · obtain rfl : k = n - 1 := by omega
      clear hcv HN HC hcell
      have hend : Hid (endG s.data.toList n (some x) = r) := by
        have e := HF.out
        rw [Nat.sub_self] at e
        rw [← HR.out, ← e]; rfl
      clear HF HR
      go_wp2_with (go_at_call 55; refine (put_any _ _).mono ?_; rintro e w2 ⟨rfl, hb2⟩)
      · have hch : charB x = true := by assumption
        have ht : (!(putB x).toList == (s.extract 0 n).toList) = true := by assumption
        go_ret2
        refine ⟨?_, hb.trans (hb2.mono hb.size)⟩
        rw [eq_take s x n hch] at ht
        rw [← hend.out]
        simp only [endG]
        rw [if_neg (by intro h; simp [h.2] at ht)]
        rfl
      · have hch : charB x = true := by assumption
        have ht : (!(putB x).toList == (s.extract 0 n).toList) = false := by assumption
        go_ret2
        refine ⟨?_, hb.trans (hb2.mono hb.size)⟩
        rw [eq_take s x n hch] at ht
        rw [← hend.out]
        simp only [endG]
        rw [if_pos ⟨hch, by simpa using ht⟩]
        rfl
      · have hch : ¬ charB x = true := by assumption
        go_ret2
        refine ⟨?_, hb.trans (hb2.mono hb.size)⟩
        rw [← hend.out]
        simp only [endG]
        rw [if_neg (fun h => hch h.1)]
        rfl
set_option maxRecDepth 100000 in
set_option maxHeartbeats 400000 in
theorem next_nil (s : ByteArray) (hp : s.size = 0) (w : World) :
    Calls Try.prog 49 #[.string s] w fun e w' => e = .returned (.tuple #[.int .i32 0, .int .i64 0]) ∧ Below w.heap.size w w' := by
  obtain ⟨d⟩ := s
  obtain rfl : d = #[] := Array.eq_empty_of_size_eq_zero hp
  clear hp
  go_enter Try.func49, Try.ntmps49
  go_wp2_with fail
  go_ret2
  exact ⟨rfl, Below.refl _ _⟩
set_option maxRecDepth 100000 in
set_option maxHeartbeats 400000 in
theorem next_bad0 (s : ByteArray) (hs : s.size ≤ maxLen) (hp : 0 < s.size) (c0 : Int) (HN : Hid (headN (s[0].toNat) = ((0 : Nat) : Int))) (HC : Hid (headC (s[0].toNat) = c0)) (w : World) :
    Calls Try.prog 49 #[.string s] w fun e w' => e = .returned (.tuple #[.int .i32 (-1), .int .i64 0]) ∧ Below w.heap.size w w' := by
  unfold maxLen at hs
  have hne := ne_empty hp
  go_enter Try.func49, Try.ntmps49
  go_wp2_with (go_at_call 54; refine (head_as _ 0 c0 (by omega) (by have := s[0].toNat_lt; omega) HN.out HC.out _).mono ?_; rintro e w1 ⟨rfl, rfl⟩)
  go_ret2
  exact ⟨rfl, Below.refl _ _⟩
set_option maxRecDepth 100000 in
set_option maxHeartbeats 400000 in
theorem next_bad1 (s : ByteArray) (hs : s.size ≤ maxLen) (hp : 0 < s.size) (n : Nat) (c0 : Int) (HN : Hid (headN (s[0].toNat) = n)) (HC : Hid (headC (s[0].toNat) = c0)) (hn1 : s.size < n) (w : World) :
    Calls Try.prog 49 #[.string s] w fun e w' => e = .returned (.tuple #[.int .i32 (-1), .int .i64 0]) ∧ Below w.heap.size w w' := by
  unfold maxLen at hs
  have hne := ne_empty hp
  have hnz : ((n : Int) == 0) = false := by simp; omega
  go_enter Try.func49, Try.ntmps49
  go_wp2_with (go_at_call 54; refine (head_as _ n c0 (by omega) (by have := s[0].toNat_lt; omega) HN.out HC.out _).mono ?_; rintro e w1 ⟨rfl, rfl⟩)
  go_ret2
  exact ⟨rfl, Below.refl _ _⟩
theorem next_any (s : ByteArray) (hs : s.size ≤ maxLen) (w : World) :
    Calls Try.prog 49 #[.string s] w fun e w' => e = .returned (.tuple #[.int .i32 (nextP s.data.toList).1, .int .i64 (nextP s.data.toList).2]) ∧ Below w.heap.size w w' := by
  rw [← nextG_eq]
  have hsz := Lib.size_eq s
  by_cases hp : 0 < s.size
  · have hb0 := bt_at s 0 hp
    have hx := headN_nat (bt s.data.toList 0)
    have hx4 := headN_le (bt s.data.toList 0)
    unfold nextG
    rw [if_neg (list_ne hp)]
    by_cases h1 : headN (bt s.data.toList 0) = 0
    · rw [if_pos (.inl h1)]
      exact next_bad0 s hs hp _ (by rw [hb0] at h1; exact h1) (by rw [← hb0]; exact Lib.hid rfl) w
    by_cases h2 : s.data.toList.length < (headN (bt s.data.toList 0)).toNat
    · rw [if_pos (.inr h2)]
      exact next_bad1 s hs hp (headN (bt s.data.toList 0)).toNat _ (by rw [← hb0]; exact hx.symm) (by rw [← hb0]; exact Lib.hid rfl) (by omega) w
    · rw [if_neg (by rintro (h | h) <;> omega)]
      exact next_main s hs hp (headN (bt s.data.toList 0)).toNat (headC (bt s.data.toList 0)) _ (by rw [← hb0]; exact hx.symm) (by rw [← hb0]; exact Lib.hid rfl) (by omega) hx4 (by omega) (Lib.hid rfl) w
  · have : s.data.toList = [] := by
      apply List.eq_nil_of_length_eq_zero; omega
    rw [this]
    exact next_nil s (by omega) w
end Go.Proofs.Ytoflicfghonhcaa
