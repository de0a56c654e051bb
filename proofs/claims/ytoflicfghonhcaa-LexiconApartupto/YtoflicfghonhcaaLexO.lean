/- OPENING THE ARGUMENTS OF LAYER 15's STATEMENTS: scripts of calls, rows of texts. -/
import Derived.Test.YtoflicfghonhcaaLexX
import Derived.ProofKit
import Derived.OpenShut
import Derived.ShutString
import Derived.ChangeOld
import Derived.Below
import Derived.SizedLaws
import Derived.Carry
import Derived.Deep.SlicePairs
namespace Go.Proofs.Ytoflicfghonhcaa
open Go.ChangeShapes Go.WideShapes Go.RowKit Go.Deep
set_option linter.unusedVariables false
theorem laidOut : laidOutB Try.prog = true := by kernel_rfl
theorem cellsInt : Try.prog.cellsOf 3 = 1 := by kernel_rfl
theorem cellsStr : Try.prog.cellsOf 9 = 1 := by kernel_rfl
theorem cellsOp : Try.prog.cellsOf 51 = 3 := by kernel_rfl
theorem add_flat (b off n : Nat) : (⟨b, off, none⟩ : Addr).add n = ⟨b, off + n, none⟩ := by
  unfold Addr.add
  split
  · rename_i h; have : n = 0 := by simpa using h
    subst this; rfl
  · rfl
section
variable {H : Type} {enc : TypeId × Value → H} {W : World} {base : Nat} {sp : Nat → Bool} {held : Bool}
theorem weightsAll_mem {P : Program} {e : TypeId} {l : List (DataW H)} {d : DataW H} (h : d ∈ l) {n : Nat} (hn : n ∈ d.weights P e) : n ∈ DataW.weightsAll P e l := by
  induction l with
  | nil => cases h
  | cons a r ih =>
    simp only [DataW.weightsAll, List.mem_append]
    rcases List.mem_cons.1 h with rfl | h
    · exact .inl hn
    · exact .inr (ih h)
theorem bulk_mem {l : List (DataW H)} {d : DataW H} (h : d ∈ l) : Rows.uptoBulk d ≤ Rows.uptoBulkAll l := by
  induction l with
  | nil => cases h
  | cons a r ih =>
    simp only [Rows.uptoBulkAll]
    rcases List.mem_cons.1 h with rfl | h
    · omega
    · have := ih h; omega
theorem len_data (s : ByteArray) : s.data.toList.length = s.size := by rw [Array.length_toList]; rfl
set_option maxRecDepth 100000 in
/-- A script of calls: opened. -/
theorem open_ops {M : Nat} {r : Reach} {b0 : Nat} {v : Value} {d : DataW H} {p : List MemPlace} (hv : Value.okWide Try.prog W r b0 31 v) (h : DataW.Trod enc Try.prog W base sp held 31 v d p)
    (hS : ∀ el spare, d = .slice el spare → ∀ a b s, DataW.agg [a, b, .lit (.string s)] ∈ el → s.length ≤ M) : ∃ os, ScriptAt M W W.heap.size v os := by
  obtain ⟨a, len, cap, rfl⟩ := okWide_slice Try.underlying31 hv
  obtain ⟨fuel, h⟩ := h
  rcases open_slice Try.underlying31 h with ⟨hc, hx⟩ | ⟨a', len', cap', m, k, D, Pl, hc, _, hl, hm, hmm, hx, hall⟩
  · simp [Value.cells] at hc
    obtain ⟨rfl, rfl, rfl⟩ := hc
    exact ⟨[], ⟨none, 0, rfl, fun h => absurd h (by simp)⟩, fun o ho => by cases ho⟩
  · simp only [Value.cells, List.cons.injEq, and_true, Value.slice.injEq] at hc
    obtain ⟨rfl, rfl, rfl⟩ := hc
    have hlm : len ≤ m := by rw [hmm]; split <;> omega
    simp only [Prod.mk.injEq] at hx
    obtain ⟨rfl, _⟩ := hx
    have each : ∀ i, i < len → ∃ x : LOp, W.cell? (a'.add (i * 3)) = some (.int .i64 x.1) ∧ W.cell? (a'.add (i * 3 + 1)) = some (.int .i64 x.2.1) ∧ W.cell? (a'.add (i * 3 + 2)) = some (.string x.2.2) ∧ x.2.2.size ≤ M := fun i hi => by
      obtain ⟨cs', h1, h2⟩ := hall i (by omega)
      rw [cellsOp] at h1
      obtain ⟨_, hlen, hcell⟩ := World.cells?_some h1
      obtain ⟨xs, n, _, hxy, _, hxl, hf⟩ := DataW.trod_struct Try.underlying51 h2
      match xs, hxl, cs', hlen with
      | [y0, y1, y2], _, [v0, v1, v2], _ =>
        have g0 := hf 0 _ rfl
        have g1 := hf 1 _ rfl
        have g2 := hf 2 _ rfl
        simp [cellsInt, cellsStr] at g0 g1 g2
        have e0 := hcell 0 (by omega)
        have e1 := hcell 1 (by omega)
        have e2 := hcell 2 (by omega)
        rw [add_add] at e0 e1 e2
        simp only [Prod.mk.injEq] at hxy
        obtain ⟨n0, c0, f0, _⟩ := DataW.trod_int Try.underlying3 g0
        obtain ⟨n1, c1, f1, _⟩ := DataW.trod_int Try.underlying3 g1
        obtain ⟨n2, c2, f2, _⟩ := DataW.trod_string Try.underlying9 g2
        simp only [List.cons.injEq, and_true] at c0 c1 c2
        have hin : D i ∈ (List.range len).map D := List.mem_map.2 ⟨i, List.mem_range.2 hi, rfl⟩
        rw [hxy.1] at hin
        simp only [List.map_cons, List.map_nil, f2] at hin
        have hsz := hS _ _ rfl _ _ _ hin
        rw [len_data] at hsz
        refine ⟨(n0, n1, n2), ?_, ?_, ?_, hsz⟩
        · simpa [c0] using e0
        · simpa [c1] using e1
        · simpa [c2] using e2
    obtain ⟨q, hq⟩ := choose_lt each
    have hget : ∀ i, i < len → ((List.range len).map q).getD i default = q i := fun i hi => by simp [List.getD_eq_getElem?_getD, hi]
    refine ⟨(List.range len).map q, ⟨some a', cap, by simp, fun h0 => ?_⟩, fun o ho => ?_⟩
    · have h0 : 0 < len := by simpa using h0
      obtain ⟨b, off, spot⟩ := a'
      obtain ⟨hq0, _⟩ := hq 0 h0
      have hspot : spot = none := by simpa [Addr.add] using World.cell?_spot hq0
      subst hspot
      rw [add_flat] at hq0
      refine ⟨b, off, rfl, block_lt_of_cell hq0, fun i hi => ?_⟩
      have hi' : i < len := by simpa using hi
      rw [hget i hi']
      obtain ⟨c0, c1, c2, _⟩ := hq i hi'
      rw [add_flat] at c0 c1 c2
      exact ⟨c0, c1, c2⟩
    · obtain ⟨i, hi, rfl⟩ := List.mem_map.1 ho
      exact (hq i (List.mem_range.1 hi)).2.2.2
theorem ops_bulk {d : DataW H} (hbk : Rows.uptoBulk d ≤ 1048576) : ∀ el spare, d = .slice el spare → ∀ a b s, DataW.agg [a, b, .lit (.string s)] ∈ el → s.length ≤ 35184372088832 := by
  rintro el spare rfl a b s hin
  have := bulk_mem hin
  simp only [Rows.uptoBulk, Rows.uptoBulkAll] at this hbk
  omega
theorem ops_weights {d : DataW H} (hw : ∀ n ∈ d.weights Try.prog 31, n ≤ 140737488351232) : ∀ el spare, d = .slice el spare → ∀ a b s, DataW.agg [a, b, .lit (.string s)] ∈ el → s.length ≤ 140737488351232 := by
  rintro el spare rfl a b s hin
  refine hw _ ?_
  simp only [DataW.weights, Try.underlying31]
  refine List.mem_cons_of_mem _ (List.mem_append_left _ (weightsAll_mem hin ?_))
  simp [DataW.weights, DataW.weightsEach, Try.underlying51]
end
end Go.Proofs.Ytoflicfghonhcaa
