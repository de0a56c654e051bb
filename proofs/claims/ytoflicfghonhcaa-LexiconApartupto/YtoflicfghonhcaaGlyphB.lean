/- WALKS OF LAYER 1 (glyph), the document's Start and Part. -/
import Derived.Test.YtoflicfghonhcaaRows
import Derived.Test.YtoflicfghonhcaaGlyphPlain
import Derived.WalkKit
import Derived.WalkSpells
import Derived.WalkLawsBesides
import Derived.Laws.CopyOwn
import Derived.Lib.Hide
namespace Go.Proofs.Ytoflicfghonhcaa
open Go.RowKit
set_option maxHeartbeats 4000000 in
theorem rstart_any (c : Int) (w : World) :
    Calls Try.prog 47 #[.int .i32 c] w fun e w' => e = .returned (.bool (startB c)) ∧ w = w' := by
  by_cases e1 : c = 95
  · subst e1
    go_enter Try.func47, Try.ntmps47
    go_wp2
    go_ret
    exact ⟨rfl, rfl⟩
  by_cases e2 : c = 8204
  · subst e2
    go_enter Try.func47, Try.ntmps47
    go_wp2
    go_ret
    exact ⟨rfl, rfl⟩
  by_cases e3 : c = 8205
  · subst e3
    go_enter Try.func47, Try.ntmps47
    go_wp2
    go_ret
    exact ⟨rfl, rfl⟩
  have f1 : (c == 95) = false := by simpa using e1
  have f2 : (c == 8204) = false := by simpa using e2
  have f3 : (c == 8205) = false := by simpa using e3
  go_enter Try.func47, Try.ntmps47
  go_wp2
  all_goals go_ret
  all_goals refine ⟨ret_bool ?_, rfl⟩
  all_goals (clear f1 f2 f3; rw [Bool.eq_iff_iff, startB_iff]; simp; try omega)
set_option maxHeartbeats 1000000 in
theorem rpart_any (c : Int) (w : World) :
    Calls Try.prog 48 #[.int .i32 c] w fun e w' => e = .returned (.bool (partB c)) ∧ w = w' := by
  by_cases hs : startB c = true
  · go_enter Try.func48, Try.ntmps48
    go_wp2_with (go_at_call 47; refine (rstart_any _ _).mono ?_; rintro e w2 ⟨rfl, rfl⟩)
    all_goals go_ret
    all_goals refine ⟨ret_bool ?_, rfl⟩
    all_goals (rw [Bool.eq_iff_iff, partB_iff]; simp [hs] <;> omega)
  · have hs' : startB c = false := by simpa using hs
    clear hs
    go_enter Try.func48, Try.ntmps48
    go_wp2_with (go_at_call 47; refine (rstart_any _ _).mono ?_; rintro e w2 ⟨rfl, rfl⟩)
    all_goals go_ret
    all_goals refine ⟨ret_bool ?_, rfl⟩
    all_goals (rw [Bool.eq_iff_iff, partB_iff]; simp [hs'] <;> omega)
end Go.Proofs.Ytoflicfghonhcaa
