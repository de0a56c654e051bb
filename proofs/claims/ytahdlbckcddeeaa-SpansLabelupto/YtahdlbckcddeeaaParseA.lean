/- WALKS OF LAYER 4 (parse), the program's: place, chars, names, parts, Check. -/
import Derived.Test.YtahdlbckcddeeaaGlyphF
import Derived.Test.YtahdlbckcddeeaaKit
import Derived.Test.YtahdlbckcddeeaaParsePlain
import Derived.WalkKit
import Derived.WalkSpells
import Derived.WalkLawsBesides
import Derived.Laws.CopyOwn
import Derived.Lib.Hide
import Derived.Lib.Strings
import Derived.Deep.QuietTactic
import Derived.BigQuiet
import Derived.IntWalk
namespace Go.Proofs.Ytahdlbckcddeeaa
open Go.RowKit
set_option linter.unusedVariables false
set_option maxRecDepth 100000 in
set_option maxHeartbeats 1000000 in
theorem place_first (b off len cap : Nat) (lv kd : Int) (nm tx : ByteArray) (ao : Option Addr) (al ac : Nat) (w : World) (hl : 0 < len)
   (h0 : w.cell? ⟨b, off, none⟩ = some (.int .i64 lv)) (h1 : w.cell? ⟨b, off + 1, none⟩ = some (.int .i64 kd)) (h2 : w.cell? ⟨b, off + 2, none⟩ = some (.string nm)) (h3 : w.cell? ⟨b, off + 3, none⟩ = some (.string tx)) (h4 : w.cell? ⟨b, off + 4, none⟩ = some (.slice ao al ac)) :
    Calls Try.prog 33 #[.slice (some ⟨b, off, none⟩) len cap, .int .i64 0] w fun e w' => e = .returned (.int .i64 (place0 lv kd)) ∧ Below w.heap.size w w' := by
  by_cases e1 : lv = 0
  · subst e1
    by_cases e2 : kd = 1
    · subst e2
      have hd : decide ((0 : Int) < 0) = false := by decide
      go_enter Try.func33, Try.ntmps33
      go_wp2_with fail
      go_quiet (fail)
      go_wp2_with fail
      go_ret
      exact ⟨rfl, below_drewN ((Below.refl _ _).alloc (Nat.le_refl _) _) _⟩
    · have f2 : (kd != 1) = true := by simpa using e2
      go_enter Try.func33, Try.ntmps33
      go_wp2_with fail
      go_ret
      exact ⟨ret_int (by unfold place0; rw [if_pos (.inr e2)]), (Below.refl _ _).alloc (Nat.le_refl _) _⟩
  · have f1 : (lv != 0) = true := by simpa using e1
    go_enter Try.func33, Try.ntmps33
    go_wp2_with fail
    go_ret
    exact ⟨ret_int (by unfold place0; rw [if_pos (.inl e1)]), (Below.refl _ _).alloc (Nat.le_refl _) _⟩
set_option maxRecDepth 100000 in
set_option maxHeartbeats 4000000 in
theorem place_next (b off len cap k : Nat) (lv kd lv0 kd0 : Int) (nm tx : ByteArray) (ao : Option Addr) (al ac : Nat) (w : World) (hl : k + 1 < len) (hlen : len ≤ 9223372036854775807) (hlv0 : 0 ≤ lv0) (hlv1 : lv0 < 40)
   (h0 : w.cell? ⟨b, off + (k + 1) * 5, none⟩ = some (.int .i64 lv)) (h1 : w.cell? ⟨b, off + (k + 1) * 5 + 1, none⟩ = some (.int .i64 kd)) (h2 : w.cell? ⟨b, off + (k + 1) * 5 + 2, none⟩ = some (.string nm)) (h3 : w.cell? ⟨b, off + (k + 1) * 5 + 3, none⟩ = some (.string tx)) (h4 : w.cell? ⟨b, off + (k + 1) * 5 + 4, none⟩ = some (.slice ao al ac))
   (g0 : w.cell? ⟨b, off + k * 5, none⟩ = some (.int .i64 lv0)) (g1 : w.cell? ⟨b, off + k * 5 + 1, none⟩ = some (.int .i64 kd0)) :
    Calls Try.prog 33 #[.slice (some ⟨b, off, none⟩) len cap, .int .i64 ((k : Int) + 1)] w fun e w' => e = .returned (.int .i64 (place1 lv lv0 kd0 (k + 1))) ∧ Below w.heap.size w w' := by
  have hk : (0 : Int) < (k : Int) + 1 := by omega
  have s1 : IntKind.i64.wrap (k : Int) = k := IntWalk.i64_in _ (by omega)
  have s2 : IntKind.i64.wrap (lv0 + 1) = lv0 + 1 := IntWalk.i64_in _ (by omega)
  have s3 : (0 : Int) ≤ k := by omega
  have s4 : (k : Int) < len := by omega
  have hbl : b < w.heap.size := block_lt_of_cell g0
  have q0 : ∀ o, (w.alloc o).cell? ⟨b, off + k * 5, none⟩ = some (.int .i64 lv0) := fun o => by rw [World.cell?_alloc_past _ _ _ hbl]; exact g0
  have q1 : ∀ o, (w.alloc o).cell? ⟨b, off + k * 5 + 1, none⟩ = some (.int .i64 kd0) := fun o => by rw [World.cell?_alloc_past _ _ _ hbl]; exact g1
  by_cases c1 : lv < 1
  · have hv : Hid (place1 lv lv0 kd0 (k + 1) = 69) := by unfold place1; rw [if_pos (.inl c1)]; exact Lib.hid rfl
    go_enter Try.func33, Try.ntmps33
    go_wp2_with fail
    go_quiet (fail)
    go_wp2_with fail
    go_ret
    exact ⟨ret_int hv.out.symm, below_drewN ((Below.refl _ _).alloc (Nat.le_refl _) _) _⟩
  have d1 : decide (lv < 1) = false := by simpa using c1
  by_cases c2 : lv0 + 1 < lv
  · have hv : Hid (place1 lv lv0 kd0 (k + 1) = 69) := by unfold place1; rw [if_pos (.inr (.inl c2))]; exact Lib.hid rfl
    go_enter Try.func33, Try.ntmps33
    go_wp2_with fail
    go_quiet (fail)
    go_wp2_with fail
    go_ret
    exact ⟨ret_int hv.out.symm, below_drewN ((Below.refl _ _).alloc (Nat.le_refl _) _) _⟩
  have d2 : decide (lv0 + 1 < lv) = false := by simpa using c2
  by_cases c3 : lv0 < lv ∧ kd0 = 2
  · obtain ⟨c3, rfl⟩ := c3
    have hv : Hid (place1 lv lv0 2 (k + 1) = 69) := by unfold place1; rw [if_pos (.inr (.inr ⟨c3, rfl⟩))]; exact Lib.hid rfl
    go_enter Try.func33, Try.ntmps33
    go_wp2_with fail
    go_quiet (fail)
    go_wp2_with fail
    go_ret
    exact ⟨ret_int hv.out.symm, below_drewN ((Below.refl _ _).alloc (Nat.le_refl _) _) _⟩
  have hn : ¬ (lv < 1 ∨ lv0 + 1 < lv ∨ (lv0 < lv ∧ kd0 = 2)) := by rintro (h | h | h) <;> contradiction
  have hv : Hid (place1 lv lv0 kd0 (k + 1) = if 40 ≤ lv then 42 else if 1000 ≤ k + 1 then 43 else 0) := by unfold place1; rw [if_neg hn]; exact Lib.hid rfl
  clear hn
  by_cases c4 : lv0 < lv
  · have f3 : (kd0 == 2) = false := by simp; intro h; exact c3 ⟨c4, h⟩
    clear c3
    go_enter Try.func33, Try.ntmps33
    go_wp2_with fail
    go_quiet (fail)
    go_wp2_with fail
    all_goals go_ret
    all_goals refine ⟨ret_int (hv.out.trans ?_).symm, below_drewN ((Below.refl _ _).alloc (Nat.le_refl _) _) _⟩
    · rw [if_pos (by omega)]
    · rw [if_neg (by omega), if_pos (by omega)]
    · rw [if_neg (by omega), if_neg (by omega)]
  · have f4 : decide (lv0 < lv) = false := by simpa using c4
    clear c3
    go_enter Try.func33, Try.ntmps33
    go_wp2_with fail
    go_quiet (fail)
    go_wp2_with fail
    all_goals go_ret
    all_goals refine ⟨ret_int (hv.out.trans ?_).symm, below_drewN ((Below.refl _ _).alloc (Nat.le_refl _) _) _⟩
    · rw [if_neg (by omega), if_pos (by omega)]
    · rw [if_neg (by omega), if_neg (by omega)]

set_option maxRecDepth 100000 in
set_option maxHeartbeats 1000000 in
theorem chars_any (s : ByteArray) (hs : s.size ≤ maxLen) (w : World) :
    Calls Try.prog 36 #[.string s] w fun e w' => e = .returned (.int .i64 (charsP s)) ∧ Below w.heap.size w w' := by
  obtain ⟨c, hc⟩ : ∃ c, c = countP s.data.toList := ⟨_, rfl⟩
  have hv : Hid (charsP s = if c < 0 then 64 else if 1500 < s.size then 67 else 0) := by rw [hc]; exact Lib.hid rfl
  have HC := Lib.hid hc
  clear hc
  have hm : s.size ≤ 9223372036854775807 := by unfold maxLen at hs; omega
  go_enter Try.func36, Try.ntmps36
  go_wp2_with fail
  refine (count_any s hs _).mono ?_
  rw [← HC.out]
  rintro e w1 ⟨rfl, hb1⟩
  go_wp2_with fail
  all_goals go_ret
  all_goals refine ⟨ret_int (hv.out.trans ?_).symm, hb1⟩
  · rw [if_pos (by omega)]
  · rw [if_neg (by omega), if_pos (by omega)]
  · rw [if_neg (by omega), if_neg (by omega)]
end Go.Proofs.Ytahdlbckcddeeaa
