/- WALKS OF LAYER 1 (glyph): the bytes of a character: laid, head, Put, and the document's. -/
import Derived.Test.YtoflicfghonhcaaRows
import Derived.Test.YtoflicfghonhcaaGlyphA
import Derived.Test.YtoflicfghonhcaaGlyphPlain3
import Derived.WalkKit
import Derived.WalkSpells
import Derived.WalkLawsBesides
import Derived.Laws.CopyOwn
import Derived.Lib.Hide
namespace Go.Proofs.Ytoflicfghonhcaa
open Go.RowKit
theorem infoU8 : (Try.prog.info? 5).map (fun i => (i.zero, i.size, i.bytes)) = some (some (.int .u8 0), 1, 1) := by kernel_rfl
set_option maxHeartbeats 400000 in
theorem laid_any (c mark : Int) (m : Nat) (hm : 1 ≤ m) (hm4 : m ≤ 4) (w : World) :
    Calls Try.prog 58 #[.int .i32 c, .int .u8 mark, .int .i64 m] w fun e w' => e = .returned (.string (strOfNums (headV c mark m :: tailV c (m - 1)))) ∧ Below w.heap.size w w' := by
  obtain ⟨i0, hi, hz0, hz1, hz2⟩ := info_parts infoU8
  go_enter Try.func58, Try.ntmps58
  go_wp2
  go_loopw [7, 8] (fun v i wr => ∃ j : Nat, ∃ pre : List Int, j + 1 ≤ m ∧ i = .int .i64 ((j : Int) - 1) ∧ pre.length + j = m ∧ pre ++ tailV c j = headV c mark m :: tailV c (m - 1) ∧ wr.ownsRow w.heap.size 5 1 v pre.length (pre.map (Value.int .u8)) ∧ Below w.heap.size w wr) (fun _ i _ => (intOf i + 1).toNat)
  case atStart => exact ⟨m - 1, [headV c mark m], by omega, by congr 1; omega, by simp; omega, by simp, ⟨by simp, .inr ⟨w.heap.size, 1, _, rfl, Nat.le_refl _, heap_alloc_new _ _, by simp, by simp [maxLen], rfl, by simp [headV]⟩⟩, (Below.refl _ _).alloc (Nat.le_refl _) _⟩
  case round =>
    obtain ⟨j, pre, hj, rfl, hl, heq, hown, hb⟩ := hrel
    have HEQ := Lib.hid heq
    clear heq
    have HL := Lib.hid hl
    have hpl : pre.length ≤ 4 := by omega
    by_cases hj0 : 1 ≤ j
    · clear hl
      obtain ⟨k, rfl⟩ : ∃ k, j = k + 1 := ⟨j - 1, by omega⟩
      go_wp2_with (at_builtin; refine wpList_append_own _ rfl _ _ 25 rfl w.heap.size 5 i0 (.int .u8 0) 1 1 Try.underlying25 hi hz0 hz1 hz2 rfl (by decide) _ _ _ rfl (hown.alloc _) ⟨wr.heap.size, 0, none⟩ 1 1 [.int .u8 (sixV c k)] rfl rfl ?c1 ?c2 ?c3 ?c4 ?c5 ?_)
      case c1 => exact cell_one_new _ _ _
      case c2 => intro u hu; simp at hu; subst hu; rfl
      case c3 => unfold maxLen; omega
      case c4 => omega
      case c5 => have := hb.size; simp; omega
      intro v' w1 hown' hgrow _
      have hb1 : Below w.heap.size w w1 := (hb.alloc hb.size _).grown hgrow (by have := hb.size; simp; omega) (fun r hr => own_block_le hown r hr)
      clear hown hgrow
      go_wp2
      go_roundw
      case rel => exact ⟨k, pre ++ [sixV c k], by omega, by go_num, by have := HL.out; simp; omega, by rw [← HEQ.out]; simp [tailV], by simpa using hown', hb1⟩
      case measure => simp [intOf]
    · obtain rfl : j = 0 := by omega
      obtain ⟨g, cap, hv, hc⟩ := own_bytes_at hown (by omega)
      subst hv
      have hcv := fun dst => run_convert_bytes_arg (P := Try.prog) wr 25 5 Try.underlying25 Try.underlying5 g 0 pre.length cap pre rfl hc dst
      have hcv' := hcv 9 Try.underlying9
      clear hcv hown hc hl
      go_wp2
      go_ret
      refine ⟨?_, hb⟩
      have := HEQ.out
      simp only [tailV, List.append_nil] at this
      rw [this]
      rfl

theorem laid1 (c : Int) (h0 : 0 ≤ c) (h1 : c < 128) (w : World) :
    Calls Try.prog 58 #[.int .i32 c, .int .u8 0, .int .i64 1] w fun e w' => e = .returned (.string (strOfNums (putV c))) ∧ Below w.heap.size w w' := by
  rw [← laidV1 h0 h1]; exact laid_any c 0 1 (by omega) (by omega) w
theorem laid2 (c : Int) (h0 : 128 ≤ c) (h1 : c < 2048) (w : World) :
    Calls Try.prog 58 #[.int .i32 c, .int .u8 192, .int .i64 2] w fun e w' => e = .returned (.string (strOfNums (putV c))) ∧ Below w.heap.size w w' := by
  rw [← laidV2 h0 h1]; exact laid_any c 192 2 (by omega) (by omega) w
theorem laid3 (c : Int) (h0 : 2048 ≤ c) (h1 : c < 65536) (w : World) :
    Calls Try.prog 58 #[.int .i32 c, .int .u8 224, .int .i64 3] w fun e w' => e = .returned (.string (strOfNums (putV c))) ∧ Below w.heap.size w w' := by
  rw [← laidV3 h0 h1]; exact laid_any c 224 3 (by omega) (by omega) w
theorem laid4 (c : Int) (h0 : 65536 ≤ c) (h1 : c ≤ 1114111) (w : World) :
    Calls Try.prog 58 #[.int .i32 c, .int .u8 240, .int .i64 4] w fun e w' => e = .returned (.string (strOfNums (putV c))) ∧ Below w.heap.size w w' := by
  rw [← laidV4 h0 h1]; exact laid_any c 240 4 (by omega) (by omega) w

set_option maxHeartbeats 400000 in
theorem put_no (c : Int) (h : charB c = false) (w : World) :
    Calls Try.prog 55 #[.int .i32 c] w fun e w' => e = .returned (.tuple #[.string ByteArray.empty, .bool false]) ∧ Below w.heap.size w w' := by
  go_enter Try.func55, Try.ntmps55
  go_wp2_with (go_at_call 57; refine (char_any _ _).mono ?_; rintro e w' ⟨rfl, rfl⟩)
  go_ret2
  exact ⟨rfl, Below.refl _ _⟩
set_option maxHeartbeats 400000 in
theorem put_yes (c : Int) (h : charB c = true) (w : World) :
    Calls Try.prog 55 #[.int .i32 c] w fun e w' => e = .returned (.tuple #[.string (strOfNums (putV c)), .bool true]) ∧ Below w.heap.size w w' := by
  have hbd := charB_bd h
  by_cases h1 : c < 128
  · go_enter Try.func55, Try.ntmps55
    go_wp2_with (first | (go_at_call 57; refine (char_any _ _).mono ?_; rintro e w' ⟨rfl, rfl⟩) | (go_at_call 58; refine (laid1 _ (by omega) (by omega) _).mono ?_; rintro e w' ⟨rfl, hb⟩))
    go_ret2
    exact ⟨rfl, hb⟩
  by_cases h2 : c < 2048
  · go_enter Try.func55, Try.ntmps55
    go_wp2_with (first | (go_at_call 57; refine (char_any _ _).mono ?_; rintro e w' ⟨rfl, rfl⟩) | (go_at_call 58; refine (laid2 _ (by omega) (by omega) _).mono ?_; rintro e w' ⟨rfl, hb⟩))
    go_ret2
    exact ⟨rfl, hb⟩
  by_cases h3 : c < 65536
  · go_enter Try.func55, Try.ntmps55
    go_wp2_with (first | (go_at_call 57; refine (char_any _ _).mono ?_; rintro e w' ⟨rfl, rfl⟩) | (go_at_call 58; refine (laid3 _ (by omega) (by omega) _).mono ?_; rintro e w' ⟨rfl, hb⟩))
    go_ret2
    exact ⟨rfl, hb⟩
  · go_enter Try.func55, Try.ntmps55
    go_wp2_with (first | (go_at_call 57; refine (char_any _ _).mono ?_; rintro e w' ⟨rfl, rfl⟩) | (go_at_call 58; refine (laid4 _ (by omega) (by omega) _).mono ?_; rintro e w' ⟨rfl, hb⟩))
    go_ret2
    exact ⟨rfl, hb⟩
theorem put_any (c : Int) (w : World) :
    Calls Try.prog 55 #[.int .i32 c] w fun e w' => e = .returned (.tuple #[.string (putB c), .bool (charB c)]) ∧ Below w.heap.size w w' := by
  cases h : charB c
  · rw [putB_none h]; exact put_no c h w
  · have : putB c = strOfNums (putV c) := by simp [putB, h]
    rw [this]; exact put_yes c h w

set_option maxHeartbeats 400000 in
theorem rput_no (c : Int) (h : charB c = false) (w : World) :
    Calls Try.prog 56 #[.int .i32 c] w fun e w' => e = .returned (.tuple #[.string ByteArray.empty, .bool false]) ∧ Below w.heap.size w w' := by
  go_enter Try.func56, Try.ntmps56
  go_wp2_with (go_at_call 59; refine (rchar_any _ _).mono ?_; rintro e w' ⟨rfl, rfl⟩)
  go_ret2
  exact ⟨rfl, Below.refl _ _⟩

theorem ret_two {k k' : IntKind} {a b a' b' : Int} (h : a = b) (h' : a' = b') : Ending.returned (.tuple #[.int k a, .int k' a']) = .returned (.tuple #[.int k b, .int k' b']) := by rw [h, h']
theorem conv_new (w : World) (xs : List Int) (n : Nat) (hn : xs.length = n) : (convert 25 9 (.slice (some ⟨w.heap.size, 0, none⟩) n n)).run Try.prog (w.alloc (.cells (xs.map (Value.int .u8)).toArray 5)) = .ok (.string (strOfNums xs)) (w.alloc (.cells (xs.map (Value.int .u8)).toArray 5)) :=
  run_convert_bytes_arg (P := Try.prog) _ 25 5 Try.underlying25 Try.underlying5 w.heap.size 0 n n xs hn (fun i hi => by
    rw [World.cell?_alloc_mark]
    have : i < xs.length := by omega
    simp [this]) 9 Try.underlying9
theorem conv_new1 (w : World) (a : Int) : (convert 25 9 (.slice (some ⟨w.heap.size, 0, none⟩) 1 1)).run Try.prog (w.alloc (.cells #[.int .u8 a] 5)) = .ok (.string (strOfNums [a])) (w.alloc (.cells #[.int .u8 a] 5)) := conv_new w [a] 1 rfl
theorem conv_new2 (w : World) (a b : Int) : (convert 25 9 (.slice (some ⟨w.heap.size, 0, none⟩) 2 2)).run Try.prog (w.alloc (.cells #[.int .u8 a, .int .u8 b] 5)) = .ok (.string (strOfNums [a, b])) (w.alloc (.cells #[.int .u8 a, .int .u8 b] 5)) := conv_new w [a, b] 2 rfl
theorem conv_new3 (w : World) (a b c : Int) : (convert 25 9 (.slice (some ⟨w.heap.size, 0, none⟩) 3 3)).run Try.prog (w.alloc (.cells #[.int .u8 a, .int .u8 b, .int .u8 c] 5)) = .ok (.string (strOfNums [a, b, c])) (w.alloc (.cells #[.int .u8 a, .int .u8 b, .int .u8 c] 5)) := conv_new w [a, b, c] 3 rfl
theorem conv_new4 (w : World) (a b c d : Int) : (convert 25 9 (.slice (some ⟨w.heap.size, 0, none⟩) 4 4)).run Try.prog (w.alloc (.cells #[.int .u8 a, .int .u8 b, .int .u8 c, .int .u8 d] 5)) = .ok (.string (strOfNums [a, b, c, d])) (w.alloc (.cells #[.int .u8 a, .int .u8 b, .int .u8 c, .int .u8 d] 5)) := conv_new w [a, b, c, d] 4 rfl

set_option maxHeartbeats 400000 in
theorem six_any (c f : Int) (h0 : 0 ≤ c) (h1 : c ≤ 1114111) (hf : 1 ≤ f) (w : World) :
    Calls Try.prog 60 #[.int .i32 c, .int .i32 f] w fun e w' => e = .returned (.int .u8 (128 + c / f % 64)) ∧ w = w' := by
  have hd0 : 0 ≤ c / f := Int.ediv_nonneg h0 (by omega)
  have hd1 : c / f ≤ c := Int.ediv_le_self _ h0
  have hn : ¬ f = 0 := by omega
  go_enter Try.func60, Try.ntmps60
  go_wp2
  go_ret
  exact ⟨ret_int (by simp; try omega), rfl⟩
set_option maxHeartbeats 1000000 in
theorem rput_1 (c : Int) (h : charB c = true) (h1 : c < 128) (w : World) :
    Calls Try.prog 56 #[.int .i32 c] w fun e w' => e = .returned (.tuple #[.string (strOfNums [c]), .bool true]) ∧ Below w.heap.size w w' := by
  have hbd := charB_bd h
  have hcv := fun a => conv_new1 w a
  go_enter Try.func56, Try.ntmps56
  go_wp2_with (first | (go_at_call 59; refine (rchar_any _ _).mono ?_; rintro e w' ⟨rfl, rfl⟩))
  go_ret2
  exact ⟨rfl, (Below.refl _ _).alloc (Nat.le_refl _) _⟩
set_option maxHeartbeats 1000000 in
theorem rput_2 (c : Int) (h : charB c = true) (h1 : ¬ c < 128) (h2 : c < 2048) (w : World) :
    Calls Try.prog 56 #[.int .i32 c] w fun e w' => e = .returned (.tuple #[.string (strOfNums [192 + c / 64, 128 + c % 64]), .bool true]) ∧ Below w.heap.size w w' := by
  have hbd := charB_bd h
  have hcv := fun a b => conv_new2 w a b
  go_enter Try.func56, Try.ntmps56
  go_wp2_with (first | (go_at_call 59; refine (rchar_any _ _).mono ?_; rintro e w' ⟨rfl, rfl⟩) | (go_at_call 60; refine (six_any _ _ (by omega) (by omega) (by omega) _).mono ?_; rintro e w' ⟨rfl, rfl⟩))
  go_ret2
  exact ⟨rfl, (Below.refl _ _).alloc (Nat.le_refl _) _⟩
set_option maxHeartbeats 1000000 in
theorem rput_3 (c : Int) (h : charB c = true) (h1 : ¬ c < 2048) (h2 : c < 65536) (w : World) :
    Calls Try.prog 56 #[.int .i32 c] w fun e w' => e = .returned (.tuple #[.string (strOfNums [224 + c / 4096, 128 + c / 64 % 64, 128 + c % 64]), .bool true]) ∧ Below w.heap.size w w' := by
  have hbd := charB_bd h
  have hcv := fun a b c => conv_new3 w a b c
  go_enter Try.func56, Try.ntmps56
  go_wp2_with (first | (go_at_call 59; refine (rchar_any _ _).mono ?_; rintro e w' ⟨rfl, rfl⟩) | (go_at_call 60; refine (six_any _ _ (by omega) (by omega) (by omega) _).mono ?_; rintro e w' ⟨rfl, rfl⟩))
  go_ret2
  exact ⟨rfl, (Below.refl _ _).alloc (Nat.le_refl _) _⟩
set_option maxHeartbeats 1000000 in
theorem rput_4 (c : Int) (h : charB c = true) (h1 : ¬ c < 65536) (w : World) :
    Calls Try.prog 56 #[.int .i32 c] w fun e w' => e = .returned (.tuple #[.string (strOfNums [240 + c / 262144, 128 + c / 4096 % 64, 128 + c / 64 % 64, 128 + c % 64]), .bool true]) ∧ Below w.heap.size w w' := by
  have hbd := charB_bd h
  have hcv := fun a b c d => conv_new4 w a b c d
  go_enter Try.func56, Try.ntmps56
  go_wp2_with (first | (go_at_call 59; refine (rchar_any _ _).mono ?_; rintro e w' ⟨rfl, rfl⟩) | (go_at_call 60; refine (six_any _ _ (by omega) (by omega) (by omega) _).mono ?_; rintro e w' ⟨rfl, rfl⟩))
  go_ret2
  exact ⟨rfl, (Below.refl _ _).alloc (Nat.le_refl _) _⟩
theorem rput_any (c : Int) (w : World) :
    Calls Try.prog 56 #[.int .i32 c] w fun e w' => e = .returned (.tuple #[.string (putB c), .bool (charB c)]) ∧ Below w.heap.size w w' := by
  cases h : charB c
  · rw [putB_none h]; exact rput_no c h w
  · have e : putB c = strOfNums (putV c) := by simp [putB, h]
    rw [e]
    by_cases h1 : c < 128
    · rw [show putV c = [c] by simp [putV, h1]]; exact rput_1 c h h1 w
    by_cases h2 : c < 2048
    · rw [show putV c = [192 + c / 64, 128 + c % 64] by simp [putV, h1, h2]]; exact rput_2 c h h1 h2 w
    by_cases h3 : c < 65536
    · rw [show putV c = [224 + c / 4096, 128 + c / 64 % 64, 128 + c % 64] by simp [putV, h1, h2, h3]]; exact rput_3 c h h2 h3 w
    · rw [show putV c = [240 + c / 262144, 128 + c / 4096 % 64, 128 + c / 64 % 64, 128 + c % 64] by simp [putV, h1, h2, h3]]; exact rput_4 c h h3 w

set_option maxHeartbeats 400000 in
theorem head_any (x : Int) (h0 : 0 ≤ x) (h1 : x ≤ 255) (w : World) :
    Calls Try.prog 54 #[.int .u8 x] w fun e w' => e = .returned (.tuple #[.int .i64 (headN x), .int .i32 (headC x)]) ∧ w = w' := by
  go_enter Try.func54, Try.ntmps54
  go_wp2
  all_goals go_ret2
  all_goals (refine ⟨ret_two ?_ ?_, rfl⟩ <;> (simp only [headN, headC]; (repeat (first | rw [if_pos (by omega)] | rw [if_neg (by omega)])) <;> try rfl))
end Go.Proofs.Ytoflicfghonhcaa
