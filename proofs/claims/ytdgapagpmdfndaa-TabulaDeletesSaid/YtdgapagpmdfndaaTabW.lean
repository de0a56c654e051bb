/- LAYER 13 (tabula): the document's side: Put. -/
import Derived.Test.YtdgapagpmdfndaaTabN
import Derived.Test.YtdgapagpmdfndaaTabV
namespace Go.Proofs.Ytdgapagpmdfndaa
open Go.RowKit
set_option linter.unusedVariables false
theorem infoArr : (Try.prog.info? 46).map (fun i => (i.zero, i.size, i.bytes)) = some (some (.agg #[.int .i64 0, .int .i64 0]), 2, 16) := by kernel_rfl
/-- Rows as the document keeps them, in a block that is none of F's. -/
structure DocAt (w : World) (F : Nat → Prop) (v : Value) (l : List Row) : Prop where
  val : ∃ a cap, v = .slice a l.length cap ∧ (0 < l.length → ∃ b off, a = some ⟨b, off, none⟩ ∧ b < w.heap.size ∧ ¬ F b ∧ ∀ i, i < l.length → w.cell? ⟨b, off + i * 2, none⟩ = some (.int .i64 (l.getD i default).1) ∧ w.cell? ⟨b, off + i * 2 + 1, none⟩ = some (.int .i64 (l.getD i default).2))
theorem DocAt.frm {w w' : World} {F G : Nat → Prop} {v : Value} {l : List Row} (h : DocAt w F v l) (hf : Frm G w w') (hG : ∀ x, x < w.heap.size → G x → F x) {F' : Nat → Prop} (hF : ∀ x, x < w.heap.size → F' x → F x) : DocAt w' F' v l := by
  obtain ⟨a, cap, h1, h2⟩ := h.val
  refine ⟨a, cap, h1, fun h0 => ?_⟩
  obtain ⟨b, off, e, hlt, hn, hc⟩ := h2 h0
  have hk := hf.block b hlt fun hx => hn (hG b hlt hx)
  exact ⟨b, off, e, Nat.lt_of_lt_of_le hlt hf.size, fun hx => hn (hF b hlt hx), fun i hi => ⟨(World.cell?_of_block hk).trans (hc i hi).1, (World.cell?_of_block hk).trans (hc i hi).2⟩⟩
theorem DocAt.below {w w' : World} {F : Nat → Prop} {v : Value} {l : List Row} (h : DocAt w F v l) (hb : Below w.heap.size w w') : DocAt w' F v l :=
  h.frm (Frm.of_below (F := fun _ => False) hb) (fun _ _ hx => hx.elim) fun _ _ hx => hx
theorem DocAt.nil (w : World) (F : Nat → Prop) : DocAt w F (.slice none 0 0) [] := ⟨none, 0, rfl, fun h => by cases h⟩
theorem DocAt.of_own {w : World} {B : Nat} {F : Nat → Prop} {v : Value} {l : List Row} (h : OwnS w B 46 2 v l.length (rowCells l)) (hF : ∀ x, F x → x < B) : DocAt w F v l := by
  obtain ⟨a, cap, rfl⟩ := h.len
  refine ⟨a, cap, rfl, fun h0 => ?_⟩
  obtain ⟨g, c, hv, hB, hg, _⟩ := h.shape h0
  cases hv
  refine ⟨g, 0, rfl, hg, fun hx => by have := hF g hx; omega, fun i hi => ?_⟩
  have d1 := h.cellAt (i * 2) (by omega)
  have d2 := h.cellAt (i * 2 + 1) (by omega)
  rw [(rowCells_at l i hi).1] at d1
  rw [(rowCells_at l i hi).2] at d2
  simpa using And.intro d1 d2
/-- One row more. -/
theorem push_row {w : World} {B : Nat} {v : Value} {l : List Row} (ho : OwnS w B 46 2 v l.length (rowCells l)) (hB : B ≤ w.heap.size) (hl : l.length ≤ 1000000) (x : Row) :
    ∃ a c W', (appSem #[26, 26] 26 #[v, .slice (some ⟨w.heap.size, 0, none⟩) 1 1]).run Try.prog (w.alloc (.cells #[.int .i64 x.1, .int .i64 x.2] 46)) = .ok (.slice a (l.length + 1) c) W' ∧
      OwnS W' B 46 2 (.slice a (l.length + 1) c) (l ++ [x]).length (rowCells (l ++ [x])) ∧ Below B w W' := by
  obtain ⟨i0, hk1, hk2, hk3, hk4⟩ := info_parts infoArr
  have hx : OwnS (w.alloc (.cells #[.int .i64 x.1, .int .i64 x.2] 46)) w.heap.size 46 2 (.slice (some ⟨w.heap.size, 0, none⟩) 1 1) 1 [.int .i64 x.1, .int .i64 x.2] :=
    ⟨rfl, .inr ⟨w.heap.size, 1, _, rfl, Nat.le_refl _, heap_alloc_new _ _, Nat.le_refl _, by decide, Nat.le_refl _, rfl⟩⟩
  obtain ⟨v', W', hr, ho', hg, hn⟩ := run_append_src (P := Try.prog) (w.alloc (.cells #[.int .i64 x.1, .int .i64 x.2] 46)) B 26 26 46 i0 (.agg #[.int .i64 0, .int .i64 0]) 2 16 Try.underlying26 hk1 hk2 hk3 hk4 rfl (by decide) v l.length (rowCells l) (ho.alloc _) _ 1 _ hx (by intro u hu; simp at hu; rcases hu with rfl | rfl <;> rfl) (by have : maxLen = 9223372036854775807 := rfl; omega) (by omega) (by simp; omega)
  obtain ⟨a, c, rfl⟩ := ho'.len
  rw [append_eq] at hr
  refine ⟨a, c, W', hr, ?_, ?_⟩
  · rw [rowCells_append, List.length_append]
    exact ho'
  · have hb : Below B w (w.alloc (.cells #[.int .i64 x.1, .int .i64 x.2] 46)) := (Below.refl B w).alloc hB _
    exact hb.grown hg (by simp; omega) fun r hr => by
      have := (ho.block r hr).1; exact this
end Go.Proofs.Ytdgapagpmdfndaa
