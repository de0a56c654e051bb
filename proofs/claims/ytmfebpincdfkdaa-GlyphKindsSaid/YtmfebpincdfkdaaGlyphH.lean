/- WALKS OF THE STATEMENTS OF LAYER 1 (glyph): alive, and those on characters. -/
import Derived.Test.YtmfebpincdfkdaaGlyphB
import Derived.Test.YtmfebpincdfkdaaGlyphE
import Derived.Test.YtmfebpincdfkdaaGlyphF
import Derived.WalkKit
import Derived.WalkSpells
import Derived.WalkLawsBesides
import Derived.Laws.CopyOwn
import Derived.Lib.Hide
import Derived.Lib.Strings
namespace Go.Proofs.Ytmfebpincdfkdaa
open Go.RowKit
set_option linter.unusedVariables false

theorem next_ascii (a : UInt8) (l : List UInt8) (h : charB (a.toNat : Int) = true) (h2 : a.toNat < 128) : nextP (a :: l) = ((a.toNat : Int), 1) := by
  have e : putL (a.toNat : Int) = [a] := by
    have : (a.toNat : Int) < 128 := by omega
    simp [putL, putV, this, toU8]
  have := nextP_yes (l := a :: l) (c := (a.toNat : Int)) ⟨h, l, by rw [e]; rfl⟩
  rw [this, e]; rfl
theorem all_a1 : allP [97, 45, 49] = some [97, 45, 49] := by
  rw [allP_step (by simp) (by rw [next_ascii _ _ (by decide) (by decide)]; simp), next_ascii _ _ (by decide) (by decide)]
  show (allP [45, 49]).map _ = _
  rw [allP_step (by simp) (by rw [next_ascii _ _ (by decide) (by decide)]; simp), next_ascii _ _ (by decide) (by decide)]
  show ((allP [49]).map _).map _ = _
  rw [allP_step (by simp) (by rw [next_ascii _ _ (by decide) (by decide)]; simp), next_ascii _ _ (by decide) (by decide)]
  show (((allP []).map _).map _).map _ = _
  rw [allP_nil]; rfl
theorem all_a2 : allP [45, 97] = some [45, 97] := by
  rw [allP_step (by simp) (by rw [next_ascii _ _ (by decide) (by decide)]; simp), next_ascii _ _ (by decide) (by decide)]
  show (allP [97]).map _ = _
  rw [allP_step (by simp) (by rw [next_ascii _ _ (by decide) (by decide)]; simp), next_ascii _ _ (by decide) (by decide)]
  show ((allP []).map _).map _ = _
  rw [allP_nil]; rfl
theorem name_a1 : nameP [97, 45, 49] = true := by
  have h : 0 < namesFrom 0 [97, 45, 49] := (namesFrom_zero 97 [45, 49] all_a1).2 (by decide)
  unfold nameP
  rw [decide_eq_true h]
  decide
theorem name_a2 : nameP [45, 97] = false := by
  have h : ¬ 0 < namesFrom 0 [45, 97] := fun h => absurd ((namesFrom_zero 45 [97] all_a2).1 h) (by decide)
  unfold nameP
  rw [decide_eq_false h, Bool.and_false]
theorem next_e9 : nextP [195, 169, 120] = (233, 2) := by
  have e : putL 233 = [195, 169] := by decide
  have := nextP_yes (l := [195, 169, 120]) (c := 233) ⟨by decide, [120], by rw [e]; rfl⟩
  rw [this, e]; rfl
theorem put_20ac : putB 8364 = ⟨#[226, 130, 172]⟩ := by decide

theorem alive_put (w : World) : Calls Try.prog 18 #[.int .i32 8364] w fun e w' => e = .returned (.tuple #[.string ⟨#[226, 130, 172]⟩, .bool true]) ∧ Below w.heap.size w w' := by
  have := put_any 8364 w
  rw [put_20ac] at this
  exact this
theorem alive_next (w : World) : Calls Try.prog 20 #[.string ⟨#[195, 169, 120]⟩] w fun e w' => e = .returned (.tuple #[.int .i32 233, .int .i64 2]) ∧ Below w.heap.size w w' := by
  have := next_any ⟨#[195, 169, 120]⟩ (by decide) w
  rw [next_e9] at this
  exact this
theorem alive_name1 (w : World) : Calls Try.prog 22 #[.string ⟨#[97, 45, 49]⟩] w fun e w' => e = .returned (.bool true) ∧ Below w.heap.size w w' := by
  have := name_any ⟨#[97, 45, 49]⟩ (by decide) w
  rw [name_a1] at this
  exact this
theorem alive_name2 (w : World) : Calls Try.prog 22 #[.string ⟨#[45, 97]⟩] w fun e w' => e = .returned (.bool false) ∧ Below w.heap.size w w' := by
  have := name_any ⟨#[45, 97]⟩ (by decide) w
  rw [name_a2] at this
  exact this

set_option maxRecDepth 100000 in
set_option maxHeartbeats 1000000 in
theorem alive_any (w : World) :
    Calls Try.prog 11 #[] w fun e w' => e = .returned (.bool true) ∧ Below w.heap.size w w' := by
  go_enter Try.func11, Try.ntmps11
  go_wp2_with fail
  refine (alive_put _).mono ?_
  rintro e w1 ⟨rfl, hb1⟩
  go_wp2_with fail
  refine (alive_next _).mono ?_
  rintro e w2 ⟨rfl, hb2⟩
  go_wp2_with fail
  refine (alive_name1 _).mono ?_
  rintro e w3 ⟨rfl, hb3⟩
  go_wp2_with fail
  refine (alive_name2 _).mono ?_
  rintro e w4 ⟨rfl, hb4⟩
  go_wp2_with fail
  go_ret
  exact ⟨rfl, ((hb1.trans (hb2.mono hb1.size)).trans (hb3.mono (by have := hb1.size; have := hb2.size; omega))).trans (hb4.mono (by have := hb1.size; have := hb2.size; have := hb3.size; omega))⟩

theorem bel_trans {w w1 w2 : World} (h : Below w.heap.size w w1) (h2 : Below w1.heap.size w1 w2) : Below w.heap.size w w2 := h.trans (h2.mono h.size)

set_option maxRecDepth 100000 in
set_option maxHeartbeats 1000000 in
theorem kinds_any (c : Int) (w : World) :
    Calls Try.prog 3 #[.int .i32 c] w fun e w' => e = .returned (.bool true) ∧ Below w.heap.size w w' := by
  go_enter Try.func3, Try.ntmps3
  go_wp2_with fail
  refine (alive_any _).mono ?_
  rintro e w1 ⟨rfl, hb1⟩
  go_wp2_with fail
  refine (char_any _ _).mono ?_
  rintro e w2 ⟨rfl, rfl⟩
  go_wp2_with fail
  refine (rchar_any _ _).mono ?_
  rintro e w2 ⟨rfl, rfl⟩
  go_wp2_with fail
  refine (start_any _ _).mono ?_
  rintro e w2 ⟨rfl, hb2⟩
  go_wp2_with fail
  refine (rstart_any _ _).mono ?_
  rintro e w3 ⟨rfl, rfl⟩
  go_wp2_with fail
  refine (part_any _ _).mono ?_
  rintro e w3 ⟨rfl, hb3⟩
  go_wp2_with fail
  refine (rpart_any _ _).mono ?_
  rintro e w4 ⟨rfl, rfl⟩
  go_wp2_with fail
  go_ret
  exact ⟨rfl, bel_trans (bel_trans hb1 hb2) hb3⟩
end Go.Proofs.Ytmfebpincdfkdaa
