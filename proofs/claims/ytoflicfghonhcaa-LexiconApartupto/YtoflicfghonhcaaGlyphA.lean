/- WALKS OF LAYER 1 (glyph), first part: Char, Start, Part. -/
import Derived.Test.YtoflicfghonhcaaRows
import Derived.Test.YtoflicfghonhcaaGlyphPlain
import Derived.WalkKit
import Derived.WalkSpells
import Derived.WalkLawsBesides
import Derived.Laws.CopyOwn
import Derived.Lib.Hide
namespace Go.Proofs.Ytoflicfghonhcaa
open Go.RowKit
set_option maxHeartbeats 400000 in
theorem char_any (c : Int) (w : World) :
    Calls Try.prog 57 #[.int .i32 c] w fun e w' => e = .returned (.bool (charB c)) ∧ w = w' := by
  go_enter Try.func57, Try.ntmps57
  go_wp2
  all_goals go_ret
  all_goals refine ⟨ret_bool ?_, rfl⟩
  all_goals (rw [Bool.eq_iff_iff, charB_iff]; simp <;> omega)

set_option maxHeartbeats 400000 in
theorem rchar_any (c : Int) (w : World) :
    Calls Try.prog 59 #[.int .i32 c] w fun e w' => e = .returned (.bool (charB c)) ∧ w = w' := by
  go_enter Try.func59, Try.ntmps59
  go_wp2
  all_goals go_ret
  all_goals refine ⟨ret_bool ?_, rfl⟩
  all_goals (rw [Bool.eq_iff_iff, charB_iff]; simp <;> omega)
def startArr : Array Value := (startSpans.flatMap fun s => [Value.int .i32 s.1, .int .i32 s.2]).toArray
theorem startArr_one : startArr.all (·.oneCell') = true := by kernel_rfl
set_option maxHeartbeats 400000 in
theorem starts_any (w : World) :
    Calls Try.prog 51 #[] w fun e w' => e = .returned (.agg startArr) ∧ Below w.heap.size w w' := by
  go_enter Try.func51, Try.ntmps51
  go_wp2_with (refine wpList_store_row ?_ 90 (.tmp 0) (.tmp 16) ?_ w.heap.size startArr ?_ ?_ 90 _ (heap_alloc_new _ _) ?_ ?_ startArr_one ?_; rfl; rfl; rfl; kernel_rfl; kernel_rfl; kernel_rfl)
  refine bodyPost_ret (v := .agg startArr) ?_ rfl ⟨rfl, ?_⟩
  · exact results_cell_row rfl _ _ w.heap.size 90 _ _ _ rfl (setRow_heap _ _ _ _ _ _ (heap_alloc_new _ _)) Try.underlying90 (by kernel_rfl) (by kernel_rfl)
  · exact below_setRow ((Below.refl _ _).alloc (Nat.le_refl _) _) (Nat.le_refl _) _
set_option maxHeartbeats 400000 in
theorem has_any (a b c : Int) (w : World) :
    Calls Try.prog 50 #[.agg #[.int .i32 a, .int .i32 b], .int .i32 c] w fun e w' => e = .returned (.bool (hasB (a, b) c)) ∧ Below w.heap.size w w' := by
  go_enter Try.func50, Try.ntmps50
  go_wp2
  all_goals go_ret
  all_goals refine ⟨ret_bool ?_, by repeat (first | exact Below.refl _ _ | (refine Below.alloc ?_ (by simp) _))⟩
  all_goals (rw [Bool.eq_iff_iff]; simp [hasB]; try omega)

def lo (k : Nat) : Int := (startSpans.getD k (0, 0)).1
def hi (k : Nat) : Int := (startSpans.getD k (0, 0)).2
theorem index_start (k : Nat) (h : k < 15) (w : World) : (Instr.index 90 (.agg startArr) (.int .i64 k)).run Try.prog w = .ok (.agg #[.int .i32 (lo k), .int .i32 (hi k)]) w :=
  match k, h with
  | 0, _ => by kernel_rfl
  | 1, _ => by kernel_rfl
  | 2, _ => by kernel_rfl
  | 3, _ => by kernel_rfl
  | 4, _ => by kernel_rfl
  | 5, _ => by kernel_rfl
  | 6, _ => by kernel_rfl
  | 7, _ => by kernel_rfl
  | 8, _ => by kernel_rfl
  | 9, _ => by kernel_rfl
  | 10, _ => by kernel_rfl
  | 11, _ => by kernel_rfl
  | 12, _ => by kernel_rfl
  | 13, _ => by kernel_rfl
  | 14, _ => by kernel_rfl
  | k + 15, h => by omega
theorem start_drop (k : Nat) (h : k < 15) (c : Int) : (startSpans.drop k).any (hasB · c) = (hasB (lo k, hi k) c || (startSpans.drop (k + 1)).any (hasB · c)) := by
  have h' : k < startSpans.length := h
  rw [List.drop_eq_getElem_cons h', List.any_cons]
  simp [lo, hi, h']
set_option maxHeartbeats 400000 in
theorem start_any (c : Int) (w : World) :
    Calls Try.prog 42 #[.int .i32 c] w fun e w' => e = .returned (.bool (startB c)) ∧ Below w.heap.size w w' := by
  go_enter Try.func42, Try.ntmps42
  go_wp2_with (go_at_call 51; refine (starts_any _).mono ?_; rintro e w1 ⟨rfl, hb1⟩)
  go_loopw [6] (fun i wr => ∃ k : Nat, k ≤ 15 ∧ i = .int .i64 k ∧ startB c = (startSpans.drop k).any (hasB · c) ∧ Below w.heap.size w wr) (fun i _ => 15 - (intOf i).toNat)
  case atStart => exact ⟨0, by omega, rfl, rfl, hb1⟩
  case round =>
    obtain ⟨k, hk, rfl, hs, hb⟩ := hrel
    have HS := Lib.hid hs
    clear hs
    by_cases hlt : k < 15
    · have hix := index_start k hlt
      go_wp2_with (go_at_call 50; refine (has_any _ _ _ _).mono ?_; rintro e w2 ⟨rfl, hb2⟩)
      · go_ret
        rename_i ht
        exact ⟨ret_bool (by rw [HS.out, start_drop k hlt, ht, Bool.true_or]), (hb.alloc hb.size _).trans (hb2.mono (by have := hb.size; simp; omega))⟩
      · go_roundw
        case rel =>
          rename_i ht
          exact ⟨k + 1, by omega, by go_num, by rw [HS.out, start_drop k hlt, ht, Bool.false_or], (hb.alloc hb.size _).trans (hb2.mono (by have := hb.size; simp; omega))⟩
        case measure => simp [intOf]; omega
    · obtain rfl : k = 15 := by omega
      go_wp2
      go_ret
      exact ⟨ret_bool (by rw [HS.out]; rfl), hb⟩
def plo (k : Nat) : Int := (partSpans.getD k (0, 0)).1
def phi (k : Nat) : Int := (partSpans.getD k (0, 0)).2
theorem index_part (k : Nat) (h : k < 5) (w : World) : (Instr.index 89 (.agg #[.int .i32 45, .int .i32 46, .int .i32 48, .int .i32 57, .int .i32 183, .int .i32 183, .int .i32 768, .int .i32 879, .int .i32 8255, .int .i32 8256]) (.int .i64 k)).run Try.prog w = .ok (.agg #[.int .i32 (plo k), .int .i32 (phi k)]) w :=
  match k, h with
  | 0, _ => by kernel_rfl
  | 1, _ => by kernel_rfl
  | 2, _ => by kernel_rfl
  | 3, _ => by kernel_rfl
  | 4, _ => by kernel_rfl
  | k + 5, h => by omega
theorem part_drop (k : Nat) (h : k < 5) (c : Int) : (partSpans.drop k).any (hasB · c) = (hasB (plo k, phi k) c || (partSpans.drop (k + 1)).any (hasB · c)) := by
  have h' : k < partSpans.length := h
  rw [List.drop_eq_getElem_cons h', List.any_cons]
  simp [plo, phi, h']
set_option maxHeartbeats 400000 in
theorem part_any (c : Int) (w : World) :
    Calls Try.prog 41 #[.int .i32 c] w fun e w' => e = .returned (.bool (partB c)) ∧ Below w.heap.size w w' := by
  go_enter Try.func41, Try.ntmps41
  go_wp2_with fail
  go_loopw [11] (fun i wr => ∃ k : Nat, k ≤ 5 ∧ i = .int .i64 k ∧ partSpans.any (hasB · c) = (partSpans.drop k).any (hasB · c) ∧ Below w.heap.size w wr) (fun i _ => 5 - (intOf i).toNat)
  case atStart => exact ⟨0, by omega, rfl, rfl, Below.refl _ _⟩
  case round =>
    obtain ⟨k, hk, rfl, hs, hb⟩ := hrel
    have HS := Lib.hid hs
    clear hs
    by_cases hlt : k < 5
    · have hix := index_part k hlt
      go_wp2_with (go_at_call 50; refine (has_any _ _ _ _).mono ?_; rintro e w2 ⟨rfl, hb2⟩)
      · go_ret
        rename_i ht
        exact ⟨ret_bool (by unfold partB; rw [HS.out, part_drop k hlt, ht]; simp), (hb.alloc hb.size _).trans (hb2.mono (by have := hb.size; simp; omega))⟩
      · go_roundw
        case rel =>
          rename_i ht
          exact ⟨k + 1, by omega, by go_num, by rw [HS.out, part_drop k hlt, ht, Bool.false_or], (hb.alloc hb.size _).trans (hb2.mono (by have := hb.size; simp; omega))⟩
        case measure => simp [intOf]; omega
    · obtain rfl : k = 5 := by omega
      go_wp2_with (go_at_call 42; refine (start_any _ _).mono ?_; rintro e w2 ⟨rfl, hb2⟩)
      go_ret
      exact ⟨ret_bool (by unfold partB; rw [HS.out]; rfl), hb.trans (hb2.mono hb.size)⟩
end Go.Proofs.Ytoflicfghonhcaa
