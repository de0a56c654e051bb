/- WALKS OF LAYER 1 (glyph): Next, the document's. -/
import Derived.Test.YtoflicfghonhcaaGlyphD
import Derived.WalkKit
import Derived.WalkSpells
import Derived.WalkLawsBesides
import Derived.Laws.CopyOwn
import Derived.Lib.Hide
import Derived.Lib.Strings
namespace Go.Proofs.Ytoflicfghonhcaa
open Go.RowKit
set_option linter.unusedVariables false
set_option maxRecDepth 100000 in
set_option maxHeartbeats 2000000 in
theorem rnext_maina (s : ByteArray) (hs : s.size ≤ maxLen) (hp : 0 < s.size) (r : Int × Nat) (h2 : (s[0].toNat : Int) < 192) (hn3 : 1 ≤ s.size)
    (HR : Hid (endG s.data.toList 1 (some (foldR s.data.toList (1 - 1) 0 ((s[0].toNat : Int)))) = r)) (w : World) :
    Calls Try.prog 53 #[.string s] w fun e w' => e = .returned (.tuple #[.int .i32 r.1, .int .i64 r.2]) ∧ Below w.heap.size w w' := by
  unfold maxLen at hs
  have hne := ne_empty hp
  have hx0 : ((s[0].toNat : Nat) : Int) ≤ 255 := by have := s[0].toNat_lt; omega
  go_enter Try.func53, Try.ntmps53
  go_wp2_with fail
  go_loopw [5, 6] (fun c i wr => ∃ k : Nat, ∃ x : Int, k ≤ 1 - 1 ∧ i = .int .i64 ((k : Int) + 1) ∧ c = .int .i32 x ∧ foldR s.data.toList (1 - 1 - k) k x = foldR s.data.toList (1 - 1) 0 ((s[0].toNat : Int)) ∧ Below w.heap.size w wr) (fun _ i _ => 1 - (intOf i).toNat)
  case atStart => exact ⟨0, _, by omega, rfl, rfl, rfl, Below.refl _ _⟩
  case round =>
    obtain ⟨k, x, hk, rfl, rfl, hf, hb⟩ := hrel
    have HF := Lib.hid hf
    clear hf
    by_cases hlt : k < 1 - 1
    · exact absurd hlt (by omega)
    · obtain rfl : k = 1 - 1 := by omega
      have hend : Hid (endG s.data.toList 1 (some x) = r) := by
        have e := HF.out
        rw [Nat.sub_self] at e
        rw [← HR.out, ← e]; rfl
      clear HF HR
      go_wp2_with (go_at_call 56; refine (rput_any _ _).mono ?_; rintro e w2 ⟨rfl, hb2⟩)
      · have hch : charB x = true := by assumption
        have ht : (!(putB x).toList == (s.extract 0 1).toList) = true := by assumption
        go_ret2
        refine ⟨?_, hb.trans (hb2.mono hb.size)⟩
        rw [eq_take s x 1 hch] at ht
        rw [← hend.out]
        simp only [endG]
        rw [if_neg (by intro h; simp [h.2] at ht)]
        rfl
      · have hch : charB x = true := by assumption
        have ht : (!(putB x).toList == (s.extract 0 1).toList) = false := by assumption
        go_ret2
        refine ⟨?_, hb.trans (hb2.mono hb.size)⟩
        rw [eq_take s x 1 hch] at ht
        rw [← hend.out]
        simp only [endG]
        rw [if_pos ⟨hch, by simpa using ht⟩]
        rfl
      · have hch : ¬ charB x = true := by assumption
        go_ret2
        refine ⟨?_, hb.trans (hb2.mono hb.size)⟩
        rw [← hend.out]
        simp only [endG]
        rw [if_neg (fun h => hch h.1)]
        rfl
set_option maxRecDepth 100000 in
set_option maxHeartbeats 2000000 in
theorem rnext_mainb (s : ByteArray) (hs : s.size ≤ maxLen) (hp : 0 < s.size) (r : Int × Nat) (h1 : 248 ≤ (s[0].toNat : Int)) (hn3 : 1 ≤ s.size)
    (HR : Hid (endG s.data.toList 1 (some (foldR s.data.toList (1 - 1) 0 ((s[0].toNat : Int)))) = r)) (w : World) :
    Calls Try.prog 53 #[.string s] w fun e w' => e = .returned (.tuple #[.int .i32 r.1, .int .i64 r.2]) ∧ Below w.heap.size w w' := by
  unfold maxLen at hs
  have hne := ne_empty hp
  have hx0 : ((s[0].toNat : Nat) : Int) ≤ 255 := by have := s[0].toNat_lt; omega
  go_enter Try.func53, Try.ntmps53
  go_wp2_with fail
  go_loopw [5, 6] (fun c i wr => ∃ k : Nat, ∃ x : Int, k ≤ 1 - 1 ∧ i = .int .i64 ((k : Int) + 1) ∧ c = .int .i32 x ∧ foldR s.data.toList (1 - 1 - k) k x = foldR s.data.toList (1 - 1) 0 ((s[0].toNat : Int)) ∧ Below w.heap.size w wr) (fun _ i _ => 1 - (intOf i).toNat)
  case atStart => exact ⟨0, _, by omega, rfl, rfl, rfl, Below.refl _ _⟩
  case round =>
    obtain ⟨k, x, hk, rfl, rfl, hf, hb⟩ := hrel
    have HF := Lib.hid hf
    clear hf
    by_cases hlt : k < 1 - 1
    · exact absurd hlt (by omega)
    · obtain rfl : k = 1 - 1 := by omega
      have hend : Hid (endG s.data.toList 1 (some x) = r) := by
        have e := HF.out
        rw [Nat.sub_self] at e
        rw [← HR.out, ← e]; rfl
      clear HF HR
      go_wp2_with (go_at_call 56; refine (rput_any _ _).mono ?_; rintro e w2 ⟨rfl, hb2⟩)
      · have hch : charB x = true := by assumption
        have ht : (!(putB x).toList == (s.extract 0 1).toList) = true := by assumption
        go_ret2
        refine ⟨?_, hb.trans (hb2.mono hb.size)⟩
        rw [eq_take s x 1 hch] at ht
        rw [← hend.out]
        simp only [endG]
        rw [if_neg (by intro h; simp [h.2] at ht)]
        rfl
      · have hch : charB x = true := by assumption
        have ht : (!(putB x).toList == (s.extract 0 1).toList) = false := by assumption
        go_ret2
        refine ⟨?_, hb.trans (hb2.mono hb.size)⟩
        rw [eq_take s x 1 hch] at ht
        rw [← hend.out]
        simp only [endG]
        rw [if_pos ⟨hch, by simpa using ht⟩]
        rfl
      · have hch : ¬ charB x = true := by assumption
        go_ret2
        refine ⟨?_, hb.trans (hb2.mono hb.size)⟩
        rw [← hend.out]
        simp only [endG]
        rw [if_neg (fun h => hch h.1)]
        rfl
set_option maxRecDepth 100000 in
set_option maxHeartbeats 1000000 in
theorem rnext_bad2 (s : ByteArray) (hs : s.size ≤ maxLen) (hp : 0 < s.size) (h1 : 192 ≤ (s[0].toNat : Int)) (h2 : (s[0].toNat : Int) < 224) (hn3 : s.size < 2) (w : World) :
    Calls Try.prog 53 #[.string s] w fun e w' => e = .returned (.tuple #[.int .i32 (-1), .int .i64 0]) ∧ Below w.heap.size w w' := by
  unfold maxLen at hs
  have hne := ne_empty hp
  have hx0 : ((s[0].toNat : Nat) : Int) ≤ 255 := by have := s[0].toNat_lt; omega
  go_enter Try.func53, Try.ntmps53
  go_wp2_with fail
  go_ret2
  exact ⟨rfl, Below.refl _ _⟩
set_option maxRecDepth 100000 in
set_option maxHeartbeats 2000000 in
theorem rnext_main2 (s : ByteArray) (hs : s.size ≤ maxLen) (hp : 0 < s.size) (r : Int × Nat) (h1 : 192 ≤ (s[0].toNat : Int)) (h2 : (s[0].toNat : Int) < 224) (hn3 : 2 ≤ s.size)
    (HR : Hid (endG s.data.toList 2 (some (foldR s.data.toList (2 - 1) 0 ((s[0].toNat : Int) - 192))) = r)) (w : World) :
    Calls Try.prog 53 #[.string s] w fun e w' => e = .returned (.tuple #[.int .i32 r.1, .int .i64 r.2]) ∧ Below w.heap.size w w' := by
  unfold maxLen at hs
  have hne := ne_empty hp
  have hx0 : ((s[0].toNat : Nat) : Int) ≤ 255 := by have := s[0].toNat_lt; omega
  go_enter Try.func53, Try.ntmps53
  go_wp2_with fail
  go_loopw [5, 6] (fun c i wr => ∃ k : Nat, ∃ x : Int, k ≤ 2 - 1 ∧ i = .int .i64 ((k : Int) + 1) ∧ c = .int .i32 x ∧ foldR s.data.toList (2 - 1 - k) k x = foldR s.data.toList (2 - 1) 0 ((s[0].toNat : Int) - 192) ∧ Below w.heap.size w wr) (fun _ i _ => 2 - (intOf i).toNat)
  case atStart => exact ⟨0, _, by omega, rfl, rfl, rfl, Below.refl _ _⟩
  case round =>
    obtain ⟨k, x, hk, rfl, rfl, hf, hb⟩ := hrel
    have HF := Lib.hid hf
    clear hf
    by_cases hlt : k < 2 - 1
    · have hb0 := bt_at s (k + 1) (by omega)
      have HB := Lib.hid hb0
      have hfs : Hid (foldR s.data.toList (2 - 1 - k) k x = foldR s.data.toList (2 - 1 - (k + 1)) (k + 1) (stepR x (bt s.data.toList (k + 1)))) := by
        have e : 2 - 1 - k = (2 - 1 - (k + 1)) + 1 := by omega
        rw [e]; rfl
      clear hb0
      have hk1 : k + 1 < s.size := by omega
      have hx1 : ((s[k + 1].toNat : Nat) : Int) ≤ 255 := by have := s[k + 1].toNat_lt; omega
      go_wp2
      go_roundw
      case rel =>
        refine ⟨k + 1, stepR x (bt s.data.toList (k + 1)), by omega, by go_num, ?_, ?_, hb⟩
        · rw [HB.out]; rfl
        · rw [← HF.out, hfs.out]
      case measure => simp [intOf]; omega
    · obtain rfl : k = 2 - 1 := by omega
      have hend : Hid (endG s.data.toList 2 (some x) = r) := by
        have e := HF.out
        rw [Nat.sub_self] at e
        rw [← HR.out, ← e]; rfl
      clear HF HR
      go_wp2_with (go_at_call 56; refine (rput_any _ _).mono ?_; rintro e w2 ⟨rfl, hb2⟩)
      · have hch : charB x = true := by assumption
        have ht : (!(putB x).toList == (s.extract 0 2).toList) = true := by assumption
        go_ret2
        refine ⟨?_, hb.trans (hb2.mono hb.size)⟩
        rw [eq_take s x 2 hch] at ht
        rw [← hend.out]
        simp only [endG]
        rw [if_neg (by intro h; simp [h.2] at ht)]
        rfl
      · have hch : charB x = true := by assumption
        have ht : (!(putB x).toList == (s.extract 0 2).toList) = false := by assumption
        go_ret2
        refine ⟨?_, hb.trans (hb2.mono hb.size)⟩
        rw [eq_take s x 2 hch] at ht
        rw [← hend.out]
        simp only [endG]
        rw [if_pos ⟨hch, by simpa using ht⟩]
        rfl
      · have hch : ¬ charB x = true := by assumption
        go_ret2
        refine ⟨?_, hb.trans (hb2.mono hb.size)⟩
        rw [← hend.out]
        simp only [endG]
        rw [if_neg (fun h => hch h.1)]
        rfl
set_option maxRecDepth 100000 in
set_option maxHeartbeats 1000000 in
theorem rnext_bad3 (s : ByteArray) (hs : s.size ≤ maxLen) (hp : 0 < s.size) (h1 : 224 ≤ (s[0].toNat : Int)) (h2 : (s[0].toNat : Int) < 240) (hn3 : s.size < 3) (w : World) :
    Calls Try.prog 53 #[.string s] w fun e w' => e = .returned (.tuple #[.int .i32 (-1), .int .i64 0]) ∧ Below w.heap.size w w' := by
  unfold maxLen at hs
  have hne := ne_empty hp
  have hx0 : ((s[0].toNat : Nat) : Int) ≤ 255 := by have := s[0].toNat_lt; omega
  go_enter Try.func53, Try.ntmps53
  go_wp2_with fail
  go_ret2
  exact ⟨rfl, Below.refl _ _⟩
set_option maxRecDepth 100000 in
set_option maxHeartbeats 2000000 in
theorem rnext_main3 (s : ByteArray) (hs : s.size ≤ maxLen) (hp : 0 < s.size) (r : Int × Nat) (h1 : 224 ≤ (s[0].toNat : Int)) (h2 : (s[0].toNat : Int) < 240) (hn3 : 3 ≤ s.size)
    (HR : Hid (endG s.data.toList 3 (some (foldR s.data.toList (3 - 1) 0 ((s[0].toNat : Int) - 224))) = r)) (w : World) :
    Calls Try.prog 53 #[.string s] w fun e w' => e = .returned (.tuple #[.int .i32 r.1, .int .i64 r.2]) ∧ Below w.heap.size w w' := by
  unfold maxLen at hs
  have hne := ne_empty hp
  have hx0 : ((s[0].toNat : Nat) : Int) ≤ 255 := by have := s[0].toNat_lt; omega
  go_enter Try.func53, Try.ntmps53
  go_wp2_with fail
  go_loopw [5, 6] (fun c i wr => ∃ k : Nat, ∃ x : Int, k ≤ 3 - 1 ∧ i = .int .i64 ((k : Int) + 1) ∧ c = .int .i32 x ∧ foldR s.data.toList (3 - 1 - k) k x = foldR s.data.toList (3 - 1) 0 ((s[0].toNat : Int) - 224) ∧ Below w.heap.size w wr) (fun _ i _ => 3 - (intOf i).toNat)
  case atStart => exact ⟨0, _, by omega, rfl, rfl, rfl, Below.refl _ _⟩
  case round =>
    obtain ⟨k, x, hk, rfl, rfl, hf, hb⟩ := hrel
    have HF := Lib.hid hf
    clear hf
    by_cases hlt : k < 3 - 1
    · have hb0 := bt_at s (k + 1) (by omega)
      have HB := Lib.hid hb0
      have hfs : Hid (foldR s.data.toList (3 - 1 - k) k x = foldR s.data.toList (3 - 1 - (k + 1)) (k + 1) (stepR x (bt s.data.toList (k + 1)))) := by
        have e : 3 - 1 - k = (3 - 1 - (k + 1)) + 1 := by omega
        rw [e]; rfl
      clear hb0
      have hk1 : k + 1 < s.size := by omega
      have hx1 : ((s[k + 1].toNat : Nat) : Int) ≤ 255 := by have := s[k + 1].toNat_lt; omega
      go_wp2
      go_roundw
      case rel =>
        refine ⟨k + 1, stepR x (bt s.data.toList (k + 1)), by omega, by go_num, ?_, ?_, hb⟩
        · rw [HB.out]; rfl
        · rw [← HF.out, hfs.out]
      case measure => simp [intOf]; omega
    · obtain rfl : k = 3 - 1 := by omega
      have hend : Hid (endG s.data.toList 3 (some x) = r) := by
        have e := HF.out
        rw [Nat.sub_self] at e
        rw [← HR.out, ← e]; rfl
      clear HF HR
      go_wp2_with (go_at_call 56; refine (rput_any _ _).mono ?_; rintro e w2 ⟨rfl, hb2⟩)
      · have hch : charB x = true := by assumption
        have ht : (!(putB x).toList == (s.extract 0 3).toList) = true := by assumption
        go_ret2
        refine ⟨?_, hb.trans (hb2.mono hb.size)⟩
        rw [eq_take s x 3 hch] at ht
        rw [← hend.out]
        simp only [endG]
        rw [if_neg (by intro h; simp [h.2] at ht)]
        rfl
      · have hch : charB x = true := by assumption
        have ht : (!(putB x).toList == (s.extract 0 3).toList) = false := by assumption
        go_ret2
        refine ⟨?_, hb.trans (hb2.mono hb.size)⟩
        rw [eq_take s x 3 hch] at ht
        rw [← hend.out]
        simp only [endG]
        rw [if_pos ⟨hch, by simpa using ht⟩]
        rfl
      · have hch : ¬ charB x = true := by assumption
        go_ret2
        refine ⟨?_, hb.trans (hb2.mono hb.size)⟩
        rw [← hend.out]
        simp only [endG]
        rw [if_neg (fun h => hch h.1)]
        rfl
set_option maxRecDepth 100000 in
set_option maxHeartbeats 1000000 in
theorem rnext_bad4 (s : ByteArray) (hs : s.size ≤ maxLen) (hp : 0 < s.size) (h1 : 240 ≤ (s[0].toNat : Int)) (h2 : (s[0].toNat : Int) < 248) (hn3 : s.size < 4) (w : World) :
    Calls Try.prog 53 #[.string s] w fun e w' => e = .returned (.tuple #[.int .i32 (-1), .int .i64 0]) ∧ Below w.heap.size w w' := by
  unfold maxLen at hs
  have hne := ne_empty hp
  have hx0 : ((s[0].toNat : Nat) : Int) ≤ 255 := by have := s[0].toNat_lt; omega
  go_enter Try.func53, Try.ntmps53
  go_wp2_with fail
  go_ret2
  exact ⟨rfl, Below.refl _ _⟩
set_option maxRecDepth 100000 in
set_option maxHeartbeats 2000000 in
theorem rnext_main4 (s : ByteArray) (hs : s.size ≤ maxLen) (hp : 0 < s.size) (r : Int × Nat) (h1 : 240 ≤ (s[0].toNat : Int)) (h2 : (s[0].toNat : Int) < 248) (hn3 : 4 ≤ s.size)
    (HR : Hid (endG s.data.toList 4 (some (foldR s.data.toList (4 - 1) 0 ((s[0].toNat : Int) - 240))) = r)) (w : World) :
    Calls Try.prog 53 #[.string s] w fun e w' => e = .returned (.tuple #[.int .i32 r.1, .int .i64 r.2]) ∧ Below w.heap.size w w' := by
  unfold maxLen at hs
  have hne := ne_empty hp
  have hx0 : ((s[0].toNat : Nat) : Int) ≤ 255 := by have := s[0].toNat_lt; omega
  go_enter Try.func53, Try.ntmps53
  go_wp2_with fail
  go_loopw [5, 6] (fun c i wr => ∃ k : Nat, ∃ x : Int, k ≤ 4 - 1 ∧ i = .int .i64 ((k : Int) + 1) ∧ c = .int .i32 x ∧ foldR s.data.toList (4 - 1 - k) k x = foldR s.data.toList (4 - 1) 0 ((s[0].toNat : Int) - 240) ∧ Below w.heap.size w wr) (fun _ i _ => 4 - (intOf i).toNat)
  case atStart => exact ⟨0, _, by omega, rfl, rfl, rfl, Below.refl _ _⟩
  case round =>
    obtain ⟨k, x, hk, rfl, rfl, hf, hb⟩ := hrel
    have HF := Lib.hid hf
    clear hf
    by_cases hlt : k < 4 - 1
    · have hb0 := bt_at s (k + 1) (by omega)
      have HB := Lib.hid hb0
      have hfs : Hid (foldR s.data.toList (4 - 1 - k) k x = foldR s.data.toList (4 - 1 - (k + 1)) (k + 1) (stepR x (bt s.data.toList (k + 1)))) := by
        have e : 4 - 1 - k = (4 - 1 - (k + 1)) + 1 := by omega
        rw [e]; rfl
      clear hb0
      have hk1 : k + 1 < s.size := by omega
      have hx1 : ((s[k + 1].toNat : Nat) : Int) ≤ 255 := by have := s[k + 1].toNat_lt; omega
      go_wp2
      go_roundw
      case rel =>
        refine ⟨k + 1, stepR x (bt s.data.toList (k + 1)), by omega, by go_num, ?_, ?_, hb⟩
        · rw [HB.out]; rfl
        · rw [← HF.out, hfs.out]
      case measure => simp [intOf]; omega
    · obtain rfl : k = 4 - 1 := by omega
      have hend : Hid (endG s.data.toList 4 (some x) = r) := by
        have e := HF.out
        rw [Nat.sub_self] at e
        rw [← HR.out, ← e]; rfl
      clear HF HR
      go_wp2_with (go_at_call 56; refine (rput_any _ _).mono ?_; rintro e w2 ⟨rfl, hb2⟩)
      · have hch : charB x = true := by assumption
        have ht : (!(putB x).toList == (s.extract 0 4).toList) = true := by assumption
        go_ret2
        refine ⟨?_, hb.trans (hb2.mono hb.size)⟩
        rw [eq_take s x 4 hch] at ht
        rw [← hend.out]
        simp only [endG]
        rw [if_neg (by intro h; simp [h.2] at ht)]
        rfl
      · have hch : charB x = true := by assumption
        have ht : (!(putB x).toList == (s.extract 0 4).toList) = false := by assumption
        go_ret2
        refine ⟨?_, hb.trans (hb2.mono hb.size)⟩
        rw [eq_take s x 4 hch] at ht
        rw [← hend.out]
        simp only [endG]
        rw [if_pos ⟨hch, by simpa using ht⟩]
        rfl
      · have hch : ¬ charB x = true := by assumption
        go_ret2
        refine ⟨?_, hb.trans (hb2.mono hb.size)⟩
        rw [← hend.out]
        simp only [endG]
        rw [if_neg (fun h => hch h.1)]
        rfl
set_option maxRecDepth 100000 in
set_option maxHeartbeats 400000 in
theorem rnext_nil (s : ByteArray) (hp : s.size = 0) (w : World) :
    Calls Try.prog 53 #[.string s] w fun e w' => e = .returned (.tuple #[.int .i32 0, .int .i64 0]) ∧ Below w.heap.size w w' := by
  obtain ⟨d⟩ := s
  obtain rfl : d = #[] := Array.eq_empty_of_size_eq_zero hp
  clear hp
  go_enter Try.func53, Try.ntmps53
  go_wp2_with fail
  go_ret2
  exact ⟨rfl, Below.refl _ _⟩
theorem rnext_any (s : ByteArray) (hs : s.size ≤ maxLen) (w : World) :
    Calls Try.prog 53 #[.string s] w fun e w' => e = .returned (.tuple #[.int .i32 (nextP s.data.toList).1, .int .i64 (nextP s.data.toList).2]) ∧ Below w.heap.size w w' := by
  rw [← nextR_eq]
  have hsz := Lib.size_eq s
  by_cases hp : 0 < s.size
  · have hb0 := bt_at s 0 hp
    unfold nextR
    rw [if_neg (list_ne hp)]
    by_cases c1 : bt s.data.toList 0 < 192
    · have e1 : refN (bt s.data.toList 0) = 1 := by unfold refN; rw [if_neg (by omega), if_neg (by omega), if_neg (by omega)]
      have e2 : refC (bt s.data.toList 0) = (s[0].toNat : Int) := by unfold refC; rw [if_neg (by omega), if_neg (by omega), if_neg (by omega), hb0]
      rw [e1, e2, if_neg (by omega)]
      exact rnext_maina s hs hp _ (by omega) (by omega) (Lib.hid rfl) w
    by_cases c2 : bt s.data.toList 0 < 224
    · have e1 : refN (bt s.data.toList 0) = 2 := by unfold refN; rw [if_pos (by omega)]
      have e2 : refC (bt s.data.toList 0) = (s[0].toNat : Int) - 192 := by unfold refC; rw [if_pos (by omega), hb0]
      rw [e1, e2]
      by_cases hl : s.data.toList.length < 2
      · rw [if_pos hl]; exact rnext_bad2 s hs hp (by omega) (by omega) (by omega) w
      · rw [if_neg hl]; exact rnext_main2 s hs hp _ (by omega) (by omega) (by omega) (Lib.hid rfl) w
    by_cases c3 : bt s.data.toList 0 < 240
    · have e1 : refN (bt s.data.toList 0) = 3 := by unfold refN; rw [if_neg (by omega), if_pos (by omega)]
      have e2 : refC (bt s.data.toList 0) = (s[0].toNat : Int) - 224 := by unfold refC; rw [if_neg (by omega), if_pos (by omega), hb0]
      rw [e1, e2]
      by_cases hl : s.data.toList.length < 3
      · rw [if_pos hl]; exact rnext_bad3 s hs hp (by omega) (by omega) (by omega) w
      · rw [if_neg hl]; exact rnext_main3 s hs hp _ (by omega) (by omega) (by omega) (Lib.hid rfl) w
    by_cases c4 : bt s.data.toList 0 < 248
    · have e1 : refN (bt s.data.toList 0) = 4 := by unfold refN; rw [if_neg (by omega), if_neg (by omega), if_pos (by omega)]
      have e2 : refC (bt s.data.toList 0) = (s[0].toNat : Int) - 240 := by unfold refC; rw [if_neg (by omega), if_neg (by omega), if_pos (by omega), hb0]
      rw [e1, e2]
      by_cases hl : s.data.toList.length < 4
      · rw [if_pos hl]; exact rnext_bad4 s hs hp (by omega) (by omega) (by omega) w
      · rw [if_neg hl]; exact rnext_main4 s hs hp _ (by omega) (by omega) (by omega) (Lib.hid rfl) w
    · have e1 : refN (bt s.data.toList 0) = 1 := by unfold refN; rw [if_neg (by omega), if_neg (by omega), if_neg (by omega)]
      have e2 : refC (bt s.data.toList 0) = (s[0].toNat : Int) := by unfold refC; rw [if_neg (by omega), if_neg (by omega), if_neg (by omega), hb0]
      rw [e1, e2, if_neg (by omega)]
      exact rnext_mainb s hs hp _ (by omega) (by omega) (Lib.hid rfl) w
  · have : s.data.toList = [] := by
      apply List.eq_nil_of_length_eq_zero; omega
    rw [this]
    exact rnext_nil s (by omega) w
end Go.Proofs.Ytoflicfghonhcaa
