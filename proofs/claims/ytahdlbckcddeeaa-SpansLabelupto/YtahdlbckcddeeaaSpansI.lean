/- WALKS OF LAYER 14 (spans): alive. -/
import Derived.Test.YtahdlbckcddeeaaSpansH
import Derived.Test.YtahdlbckcddeeaaSpansF
import Derived.Test.YtahdlbckcddeeaaSpansA
import Derived.Test.YtahdlbckcddeeaaSpansPlainH
namespace Go.Proofs.Ytahdlbckcddeeaa
open Go.RowKit
set_option linter.unusedVariables false
def aliveCells : Array Value := #[.int .i64 0, .int .i64 1, .string ⟨#[97]⟩, .string ⟨#[]⟩, .slice none 0 0, .int .i64 1, .int .i64 2, .string ⟨#[]⟩, .string ⟨#[120]⟩, .slice none 0 0]
theorem two_items (w : World) (t : TypeId) : ItemsAt (w.alloc (.cells aliveCells t (0, 0))) w.heap.size 0 aliveL := by
  have no : AttrsAt (w.alloc (.cells aliveCells t (0, 0))) none 0 [] := ⟨rfl, fun h => absurd h (by omega), fun j hj => absurd hj (by omega), by omega⟩
  intro k hk
  match k, hk with
  | 0, _ => exact ⟨by rw [World.cell?_alloc_mark]; rfl, by rw [World.cell?_alloc_mark]; rfl, by rw [World.cell?_alloc_mark]; rfl, by rw [World.cell?_alloc_mark]; rfl, ⟨none, 0, 0, by rw [World.cell?_alloc_mark]; rfl, no⟩, by decide, by decide⟩
  | 1, _ => exact ⟨by rw [World.cell?_alloc_mark]; rfl, by rw [World.cell?_alloc_mark]; rfl, by rw [World.cell?_alloc_mark]; rfl, by rw [World.cell?_alloc_mark]; rfl, ⟨none, 0, 0, by rw [World.cell?_alloc_mark]; rfl, no⟩, by decide, by decide⟩
theorem alive_between : betweenP 0 10 3 = some [2, 5, 7] := by decide +kernel
set_option maxRecDepth 100000 in
set_option maxHeartbeats 2000000 in
theorem alive_any (w : World) : Calls Try.prog 10 #[] w fun e w' => e = .returned (.bool true) ∧ Below w.heap.size w w' := by
  go_enter Try.func10, Try.ntmps10
  go_wp2_with fail
  refine (label_yes w.heap.size 0 2 2 aliveL rfl _ (two_items w 37) alive_ok).mono ?_
  rintro e w1 ⟨g, rfl, hg, hrow, hb1⟩
  rw [alive_label] at hrow
  have hbw : Below w.heap.size w w1 := ((Below.refl _ _).alloc (Nat.le_refl _) _).trans (hb1.mono (by simp))
  rw [show aliveL.length = 2 from rfl]
  have r0 : w1.cell? ⟨g, 0, none⟩ = some (.int .i64 1099511627776) := by rw [cell_of_row w1 g 0 _ _ _ hrow]; rfl
  have r1 : w1.cell? ⟨g, 1, none⟩ = some (.int .i64 4398046511104) := by rw [cell_of_row w1 g 1 _ _ _ hrow]; rfl
  have r2 : w1.cell? ⟨g, 2, none⟩ = some (.int .i64 2199023255552) := by rw [cell_of_row w1 g 2 _ _ _ hrow]; rfl
  have r3 : w1.cell? ⟨g, 3, none⟩ = some (.int .i64 3298534883328) := by rw [cell_of_row w1 g 3 _ _ _ hrow]; rfl
  clear hrow hb1
  go_wp2_with fail
  have HB := between_any 0 10 3 w1
  rw [alive_between] at HB
  refine HB.mono ?_
  rintro e w2 ⟨v, rfl, hown, hb2⟩
  obtain ⟨g2, cp, hv, h1, h2, h3, h4⟩ := hown.shape (by decide)
  subst hv
  have s0 := hown.cellAt 0 (by decide)
  have s1 := hown.cellAt 1 (by decide)
  have s2 := hown.cellAt 2 (by decide)
  simp only [List.map_cons, List.map_nil, List.getElem?_cons_zero, List.getElem?_cons_succ] at s0 s1 s2
  simp only [List.length_cons, List.length_nil, Nat.zero_add, Nat.reduceAdd]
  have t0 := (hb2.cell (block_lt_of_cell r0)).trans r0
  have t1 := (hb2.cell (block_lt_of_cell r1)).trans r1
  have t2 := (hb2.cell (block_lt_of_cell r2)).trans r2
  have t3 := (hb2.cell (block_lt_of_cell r3)).trans r3
  have hbx : Below w.heap.size w w2 := hbw.trans (hb2.mono hbw.size)
  clear r0 r1 r2 r3 hown h1 h2 h3 h4 HB hb2 hbw
  go_wp2_with fail
  have HKS : Hid (∀ wa wb : World, Below wa.heap.size wa wb → (wa.cell? ⟨g, 0, none⟩ = some (.int .i64 1099511627776) ∧ wa.cell? ⟨g, 1, none⟩ = some (.int .i64 4398046511104) ∧ wa.cell? ⟨g, 2, none⟩ = some (.int .i64 2199023255552) ∧ wa.cell? ⟨g, 3, none⟩ = some (.int .i64 3298534883328) ∧ wa.cell? ⟨g2, 0, none⟩ = some (.int .i64 2) ∧ wa.cell? ⟨g2, 1, none⟩ = some (.int .i64 5) ∧ wa.cell? ⟨g2, 2, none⟩ = some (.int .i64 7) ∧ Below w2.heap.size w2 wa) →
      (wb.cell? ⟨g, 0, none⟩ = some (.int .i64 1099511627776) ∧ wb.cell? ⟨g, 1, none⟩ = some (.int .i64 4398046511104) ∧ wb.cell? ⟨g, 2, none⟩ = some (.int .i64 2199023255552) ∧ wb.cell? ⟨g, 3, none⟩ = some (.int .i64 3298534883328) ∧ wb.cell? ⟨g2, 0, none⟩ = some (.int .i64 2) ∧ wb.cell? ⟨g2, 1, none⟩ = some (.int .i64 5) ∧ wb.cell? ⟨g2, 2, none⟩ = some (.int .i64 7) ∧ Below w2.heap.size w2 wb)) := Lib.hid fun wa wb h hs => by
    obtain ⟨s1, s2, s3, s4, s5, s6, s7, s8⟩ := hs
    exact ⟨(h.cell (block_lt_of_cell s1)).trans s1, (h.cell (block_lt_of_cell s2)).trans s2, (h.cell (block_lt_of_cell s3)).trans s3, (h.cell (block_lt_of_cell s4)).trans s4, (h.cell (block_lt_of_cell s5)).trans s5, (h.cell (block_lt_of_cell s6)).trans s6, (h.cell (block_lt_of_cell s7)).trans s7, s8.trans (h.mono s8.size)⟩
  have HIN : Hid (∀ w, Calls Try.prog 20 #[.agg #[.int .i64 2199023255552, .int .i64 3298534883328], .agg #[.int .i64 1099511627776, .int .i64 4398046511104]] w fun e w' => e = .returned (.bool true) ∧ Below w.heap.size w w') := Lib.hid fun w => spn_in (2199023255552, 3298534883328) (1099511627776, 4398046511104) w
  go_region_held3 (fun wa => wa.cell? ⟨g, 0, none⟩ = some (.int .i64 1099511627776) ∧ wa.cell? ⟨g, 1, none⟩ = some (.int .i64 4398046511104) ∧ wa.cell? ⟨g, 2, none⟩ = some (.int .i64 2199023255552) ∧ wa.cell? ⟨g, 3, none⟩ = some (.int .i64 3298534883328) ∧ wa.cell? ⟨g2, 0, none⟩ = some (.int .i64 2) ∧ wa.cell? ⟨g2, 1, none⟩ = some (.int .i64 5) ∧ wa.cell? ⟨g2, 2, none⟩ = some (.int .i64 7) ∧ Below w2.heap.size w2 wa)
    (first | exact HKS.out _ _ (by assumption) (by assumption) | exact ⟨t0, t1, t2, t3, s0, s1, s2, (Below.refl _ _).drew⟩)
    (first | (go_at_call 20; refine (HIN.out _).mono ?_; rintro e w' ⟨rfl, hba⟩))
  obtain ⟨_, _, _, _, _, _, _, hz⟩ := ‹_ ∧ _ ∧ _ ∧ _ ∧ _ ∧ _ ∧ _ ∧ Below w2.heap.size w2 _›
  go_wp2_with fail
  go_ret
  exact ⟨rfl, hbx.trans (hz.mono hbx.size)⟩
end Go.Proofs.Ytahdlbckcddeeaa
