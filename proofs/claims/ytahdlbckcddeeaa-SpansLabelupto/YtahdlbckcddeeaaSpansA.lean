/- WALKS OF LAYER 14 (spans): small functions, the program's and the document's. -/
import Derived.Test.YtahdlbckcddeeaaRows
import Derived.Test.YtahdlbckcddeeaaKit
import Derived.Test.YtahdlbckcddeeaaSpansPlain
import Derived.WalkKit
import Derived.WalkSpells
import Derived.WalkLawsBesides
import Derived.Laws.CopyOwn
import Derived.Lib.Hide
import Derived.Deep.QuietTactic
import Derived.BigQuiet
import Derived.IntWalk
namespace Go.Proofs.Ytahdlbckcddeeaa
open Go.RowKit
set_option linter.unusedVariables false
theorem spn_in (a b : Int × Int) (w : World) :
    Calls Try.prog 20 #[.agg #[.int .i64 a.1, .int .i64 a.2], .agg #[.int .i64 b.1, .int .i64 b.2]] w fun e w' => e = .returned (.bool (inB a b)) ∧ Below w.heap.size w w' := by
  obtain ⟨a1, a2⟩ := a
  obtain ⟨b1, b2⟩ := b
  go_enter Try.func20, Try.ntmps20
  go_wp2
  all_goals go_ret
  all_goals refine ⟨ret_bool ?_, by repeat (first | exact Below.refl _ _ | (refine Below.alloc ?_ (by simp) _))⟩
  all_goals (rw [Bool.eq_iff_iff]; simp [inB]; try omega)
theorem spn_ahead (a b : Int × Int) (w : World) :
    Calls Try.prog 21 #[.agg #[.int .i64 a.1, .int .i64 a.2], .agg #[.int .i64 b.1, .int .i64 b.2]] w fun e w' => e = .returned (.bool (aheadB a b)) ∧ Below w.heap.size w w' := by
  obtain ⟨a1, a2⟩ := a
  obtain ⟨b1, b2⟩ := b
  go_enter Try.func21, Try.ntmps21
  go_wp2
  all_goals go_ret
  all_goals refine ⟨ret_bool ?_, by repeat (first | exact Below.refl _ _ | (refine Below.alloc ?_ (by simp) _))⟩
  all_goals (rw [Bool.eq_iff_iff]; simp [aheadB]; try omega)
theorem rspn_in (a b : Int × Int) (w : World) :
    Calls Try.prog 22 #[.agg #[.int .i64 a.1, .int .i64 a.2], .agg #[.int .i64 b.1, .int .i64 b.2]] w fun e w' => e = .returned (.bool (inB a b)) ∧ Below w.heap.size w w' := by
  obtain ⟨a1, a2⟩ := a
  obtain ⟨b1, b2⟩ := b
  go_enter Try.func22, Try.ntmps22
  go_wp2
  all_goals go_ret
  all_goals refine ⟨ret_bool ?_, by repeat (first | exact Below.refl _ _ | (refine Below.alloc ?_ (by simp) _))⟩
  all_goals (rw [Bool.eq_iff_iff]; simp [inB]; try omega)
theorem rspn_ahead (a b : Int × Int) (w : World) :
    Calls Try.prog 23 #[.agg #[.int .i64 a.1, .int .i64 a.2], .agg #[.int .i64 b.1, .int .i64 b.2]] w fun e w' => e = .returned (.bool (aheadB a b)) ∧ Below w.heap.size w w' := by
  obtain ⟨a1, a2⟩ := a
  obtain ⟨b1, b2⟩ := b
  go_enter Try.func23, Try.ntmps23
  go_wp2
  all_goals go_ret
  all_goals refine ⟨ret_bool ?_, by repeat (first | exact Below.refl _ _ | (refine Below.alloc ?_ (by simp) _))⟩
  all_goals (rw [Bool.eq_iff_iff]; simp [aheadB]; try omega)
theorem rinside_any (n : Int) (w : World) :
    Calls Try.prog 27 #[.int .i64 n] w fun e w' => e = .returned (.bool (insideB n)) ∧ w = w' := by
  go_enter Try.func27, Try.ntmps27
  go_wp2
  all_goals go_ret
  all_goals refine ⟨ret_bool ?_, rfl⟩
  all_goals (rw [Bool.eq_iff_iff]; simp [insideB]; try omega)
set_option maxRecDepth 100000 in
set_option maxHeartbeats 1000000 in
/-- Whether two numbers may be, out of a row of their own. -/
theorem inside_two (g : Nat) (a b : Int) (w : World) (h0 : w.cell? ⟨g, 0, none⟩ = some (.int .i64 a)) (h1 : w.cell? ⟨g, 1, none⟩ = some (.int .i64 b)) :
    Calls Try.prog 30 #[.slice (some ⟨g, 0, none⟩) 2 2] w fun e w' => e = .returned (.bool (insideB a && insideB b)) ∧ w = w' := by
  have hv : Hid ((insideB a && insideB b) = decide ((0 ≤ a ∧ a ≤ 4611686018427387904) ∧ (0 ≤ b ∧ b ≤ 4611686018427387904))) := by
    unfold insideB
    show _ = _
    rw [Bool.eq_iff_iff]; simp
  go_enter Try.func30, Try.ntmps30
  go_wp2_with fail
  go_loop [7] (fun i => (i = .int .i64 0) ∨ (i = .int .i64 1 ∧ 0 ≤ a ∧ a ≤ 4611686018427387904) ∨ (i = .int .i64 2 ∧ (0 ≤ a ∧ a ≤ 4611686018427387904) ∧ (0 ≤ b ∧ b ≤ 4611686018427387904))) (fun i => 2 - (intOf i).toNat)
  case atStart => exact .inl rfl
  case round =>
    rcases hrel with rfl | ⟨rfl, a0, a1⟩ | ⟨rfl, ⟨a0, a1⟩, b0, b1⟩
    · by_cases c0 : a < 0
      · go_wp2
        go_ret
        exact ⟨ret_bool (by rw [hv.out]; symm; rw [decide_eq_false_iff_not]; omega), rfl⟩
      by_cases c1 : 4611686018427387904 < a
      · go_wp2
        go_ret
        exact ⟨ret_bool (by rw [hv.out]; symm; rw [decide_eq_false_iff_not]; omega), rfl⟩
      · go_wp2
        go_round
        case rel => exact .inr (.inl ⟨rfl, by omega, by omega⟩)
        case measure => simp [intOf]
    · by_cases c0 : b < 0
      · go_wp2
        go_ret
        exact ⟨ret_bool (by rw [hv.out]; symm; rw [decide_eq_false_iff_not]; omega), rfl⟩
      by_cases c1 : 4611686018427387904 < b
      · go_wp2
        go_ret
        exact ⟨ret_bool (by rw [hv.out]; symm; rw [decide_eq_false_iff_not]; omega), rfl⟩
      · go_wp2
        go_round
        case rel => exact .inr (.inr ⟨rfl, ⟨a0, a1⟩, by omega, by omega⟩)
        case measure => simp [intOf]
    · go_wp2
      go_ret
      exact ⟨ret_bool (by rw [hv.out]; symm; rw [decide_eq_true_eq]; omega), rfl⟩
end Go.Proofs.Ytahdlbckcddeeaa
