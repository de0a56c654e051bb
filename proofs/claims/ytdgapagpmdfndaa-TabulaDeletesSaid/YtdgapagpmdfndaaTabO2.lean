/- OPENING THE ARGUMENTS OF LAYER 13's STATEMENTS: scripts of calls, rows, keys. -/
import Derived.Test.YtdgapagpmdfndaaTabZa
import Derived.ProofKit
import Derived.OpenShut
import Derived.ShutString
import Derived.ChangeOld
import Derived.Below
import Derived.SizedLaws
import Derived.Carry
import Derived.Deep.SlicePairs
namespace Go.Proofs.Ytdgapagpmdfndaa
open Go.ChangeShapes Go.WideShapes Go.RowKit Go.Deep
set_option linter.unusedVariables false
theorem laidOut : laidOutB Try.prog = true := by kernel_rfl
theorem cellsInt : Try.prog.cellsOf 3 = 1 := by kernel_rfl
theorem cellsOp : Try.prog.cellsOf 63 = 3 := by kernel_rfl
theorem cellsArr : Try.prog.cellsOf 46 = 2 := by kernel_rfl
theorem add_flat (b off n : Nat) : (⟨b, off, none⟩ : Addr).add n = ⟨b, off + n, none⟩ := by
  unfold Addr.add
  split
  · rename_i h; have : n = 0 := by simpa using h
    subst this; rfl
  · rfl
/-- Keys, in memory below B. -/
def IntsAt (w : World) (B : Nat) (v : Value) (ks : List Int) : Prop := ∃ a cap, v = .slice a ks.length cap ∧ (0 < ks.length → ∃ b off, a = some ⟨b, off, none⟩ ∧ b < B ∧ ∀ i, i < ks.length → w.cell? ⟨b, off + i, none⟩ = some (.int .i64 (ks.getD i default)))
theorem IntsAt.below {w w' : World} {B : Nat} {v : Value} {ks : List Int} (h : IntsAt w B v ks) (hb : Below B w w') : IntsAt w' B v ks := by
  obtain ⟨a, cap, h1, h2⟩ := h
  refine ⟨a, cap, h1, fun h0 => ?_⟩
  obtain ⟨b, off, e, hlt, hc⟩ := h2 h0
  exact ⟨b, off, e, hlt, fun i hi => (hb.cell (by exact hlt)).trans (hc i hi)⟩
section
variable {H : Type} {enc : TypeId × Value → H} {W : World} {base : Nat} {sp : Nat → Bool} {held : Bool}
set_option maxRecDepth 100000 in
/-- A script of calls: opened. -/
theorem open_ops {r : Reach} {b0 : Nat} {v : Value} {d : DataW H} {p : List MemPlace} (hv : Value.okWide Try.prog W r b0 22 v) (h : DataW.Trod enc Try.prog W base sp held 22 v d p) (_ : True) : ∃ os, ScriptAt W W.heap.size v os := by
  obtain ⟨a, len, cap, rfl⟩ := okWide_slice Try.underlying22 hv
  obtain ⟨fuel, h⟩ := h
  rcases open_slice Try.underlying22 h with ⟨hc, hx⟩ | ⟨a', len', cap', m, k, D, Pl, hc, _, hl, hm, hmm, hx, hall⟩
  · simp [Value.cells] at hc
    obtain ⟨rfl, rfl, rfl⟩ := hc
    exact ⟨[], none, 0, rfl, fun h => absurd h (by simp)⟩
  · simp only [Value.cells, List.cons.injEq, and_true, Value.slice.injEq] at hc
    obtain ⟨rfl, rfl, rfl⟩ := hc
    have hlm : len ≤ m := by rw [hmm]; split <;> omega
    have each : ∀ i, i < len → ∃ x : TOp, W.cell? (a'.add (i * 3)) = some (.int .i64 x.1) ∧ W.cell? (a'.add (i * 3 + 1)) = some (.int .i64 x.2.1) ∧ W.cell? (a'.add (i * 3 + 2)) = some (.int .i64 x.2.2) := fun i hi => by
      obtain ⟨cs', h1, h2⟩ := hall i (by omega)
      rw [cellsOp] at h1
      obtain ⟨_, hlen, hcell⟩ := World.cells?_some h1
      obtain ⟨xs, n, _, hxy, _, hxl, hf⟩ := DataW.trod_struct Try.underlying63 h2
      match xs, hxl, cs', hlen with
      | [y0, y1, y2], _, [v0, v1, v2], _ =>
        have g0 := hf 0 _ rfl
        have g1 := hf 1 _ rfl
        have g2 := hf 2 _ rfl
        simp [cellsInt] at g0 g1 g2
        have e0 := hcell 0 (by omega)
        have e1 := hcell 1 (by omega)
        have e2 := hcell 2 (by omega)
        rw [add_add] at e0 e1 e2
        obtain ⟨n0, c0, f0, _⟩ := DataW.trod_int Try.underlying3 g0
        obtain ⟨n1, c1, f1, _⟩ := DataW.trod_int Try.underlying3 g1
        obtain ⟨n2, c2, f2, _⟩ := DataW.trod_int Try.underlying3 g2
        simp only [List.cons.injEq, and_true] at c0 c1 c2
        refine ⟨(n0, n1, n2), ?_, ?_, ?_⟩
        · simpa [c0] using e0
        · simpa [c1] using e1
        · simpa [c2] using e2
    obtain ⟨q, hq⟩ := choose_lt each
    have hget : ∀ i, i < len → ((List.range len).map q).getD i default = q i := fun i hi => by simp [List.getD_eq_getElem?_getD, hi]
    refine ⟨(List.range len).map q, some a', cap, by simp, fun h0 => ?_⟩
    have h0 : 0 < len := by simpa using h0
    obtain ⟨b, off, spot⟩ := a'
    obtain ⟨hq0, _⟩ := hq 0 h0
    have hspot : spot = none := by simpa [Addr.add] using World.cell?_spot hq0
    subst hspot
    rw [add_flat] at hq0
    refine ⟨b, off, rfl, block_lt_of_cell hq0, fun i hi => ?_⟩
    have hi' : i < len := by simpa using hi
    rw [hget i hi']
    obtain ⟨c0, c1, c2⟩ := hq i hi'
    rw [add_flat] at c0 c1 c2
    exact ⟨c0, c1, c2⟩
theorem ops_weights {d : DataW H} (hw : ∀ n ∈ d.weights Try.prog 22, n ≤ 140737488351232) : True := trivial
set_option maxRecDepth 100000 in
/-- Keys: opened. -/
theorem open_oints {r : Reach} {b0 : Nat} {v : Value} {d : DataW H} {p : List MemPlace} (hv : Value.okWide Try.prog W r b0 31 v) (h : DataW.Trod enc Try.prog W base sp held 31 v d p) (_ : True) : ∃ ks, IntsAt W W.heap.size v ks := by
  obtain ⟨a, len, cap, rfl⟩ := okWide_slice Try.underlying31 hv
  obtain ⟨fuel, h⟩ := h
  rcases open_slice Try.underlying31 h with ⟨hc, hx⟩ | ⟨a', len', cap', m, k, D, Pl, hc, _, hl, hm, hmm, hx, hall⟩
  · simp [Value.cells] at hc
    obtain ⟨rfl, rfl, rfl⟩ := hc
    exact ⟨[], none, 0, rfl, fun h => absurd h (by simp)⟩
  · simp only [Value.cells, List.cons.injEq, and_true, Value.slice.injEq] at hc
    obtain ⟨rfl, rfl, rfl⟩ := hc
    have hlm : len ≤ m := by rw [hmm]; split <;> omega
    have each : ∀ i, i < len → ∃ x : Int, W.cell? (a'.add i) = some (.int .i64 x) := fun i hi => by
      obtain ⟨cs', h1, h2⟩ := hall i (by omega)
      rw [cellsInt] at h1
      obtain ⟨_, hlen, hcell⟩ := World.cells?_some h1
      obtain ⟨n0, c0, f0, _⟩ := DataW.trod_int Try.underlying3 h2
      subst c0
      have e0 := hcell 0 (by omega)
      rw [add_add] at e0
      exact ⟨n0, by simpa using e0⟩
    obtain ⟨q, hq⟩ := choose_lt each
    have hget : ∀ i, i < len → ((List.range len).map q).getD i default = q i := fun i hi => by simp [List.getD_eq_getElem?_getD, hi]
    refine ⟨(List.range len).map q, some a', cap, by simp, fun h0 => ?_⟩
    have h0 : 0 < len := by simpa using h0
    obtain ⟨b, off, spot⟩ := a'
    have hq0 := hq 0 h0
    have hspot : spot = none := by simpa [Addr.add] using World.cell?_spot hq0
    subst hspot
    rw [add_flat] at hq0
    refine ⟨b, off, rfl, block_lt_of_cell hq0, fun i hi => ?_⟩
    have hi' : i < len := by simpa using hi
    rw [hget i hi']
    have c0 := hq i hi'
    rw [add_flat] at c0
    exact c0
theorem oints_weights {d : DataW H} (hw : ∀ n ∈ d.weights Try.prog 31, n ≤ 140737488351232) : True := trivial
set_option maxRecDepth 100000 in
/-- Rows: opened. -/
theorem open_rows {r : Reach} {b0 : Nat} {v : Value} {d : DataW H} {p : List MemPlace} (hv : Value.okWide Try.prog W r b0 26 v) (h : DataW.Trod enc Try.prog W base sp held 26 v d p) (_ : True) : ∃ l, DocAt W (fun x => W.heap.size ≤ x) v l := by
  obtain ⟨a, len, cap, rfl⟩ := okWide_slice Try.underlying26 hv
  obtain ⟨fuel, h⟩ := h
  rcases open_slice Try.underlying26 h with ⟨hc, hx⟩ | ⟨a', len', cap', m, k, D, Pl, hc, _, hl, hm, hmm, hx, hall⟩
  · simp [Value.cells] at hc
    obtain ⟨rfl, rfl, rfl⟩ := hc
    exact ⟨[], none, 0, rfl, fun h => absurd h (by simp)⟩
  · simp only [Value.cells, List.cons.injEq, and_true, Value.slice.injEq] at hc
    obtain ⟨rfl, rfl, rfl⟩ := hc
    have hlm : len ≤ m := by rw [hmm]; split <;> omega
    have each : ∀ i, i < len → ∃ x : Row, W.cell? (a'.add (i * 2)) = some (.int .i64 x.1) ∧ W.cell? (a'.add (i * 2 + 1)) = some (.int .i64 x.2) := fun i hi => by
      obtain ⟨cs', h1, h2⟩ := hall i (by omega)
      rw [cellsArr] at h1
      obtain ⟨_, hlen, hcell⟩ := World.cells?_some h1
      obtain ⟨xs, n, _, hxy, _, hxl, hf⟩ := DataW.trod_array Try.underlying46 h2
      match xs, hxl, cs', hlen with
      | [y0, y1], _, [v0, v1], _ =>
        have g0 := hf 0 (by decide)
        have g1 := hf 1 (by decide)
        simp [cellsInt] at g0 g1
        have e0 := hcell 0 (by omega)
        have e1 := hcell 1 (by omega)
        rw [add_add] at e0 e1
        obtain ⟨n0, c0, f0, _⟩ := DataW.trod_int Try.underlying3 g0
        obtain ⟨n1, c1, f1, _⟩ := DataW.trod_int Try.underlying3 g1
        simp only [List.cons.injEq, and_true] at c0 c1
        refine ⟨(n0, n1), ?_, ?_⟩
        · simpa [c0] using e0
        · simpa [c1] using e1
    obtain ⟨q, hq⟩ := choose_lt each
    have hget : ∀ i, i < len → ((List.range len).map q).getD i default = q i := fun i hi => by simp [List.getD_eq_getElem?_getD, hi]
    refine ⟨(List.range len).map q, some a', cap, by simp, fun h0 => ?_⟩
    have h0 : 0 < len := by simpa using h0
    obtain ⟨b, off, spot⟩ := a'
    obtain ⟨hq0, _⟩ := hq 0 h0
    have hspot : spot = none := by simpa [Addr.add] using World.cell?_spot hq0
    subst hspot
    rw [add_flat] at hq0
    refine ⟨b, off, rfl, block_lt_of_cell hq0, Nat.not_le.2 (block_lt_of_cell hq0), fun i hi => ?_⟩
    have hi' : i < len := by simpa using hi
    rw [hget i hi']
    obtain ⟨c0, c1⟩ := hq i hi'
    rw [add_flat] at c0 c1
    exact ⟨c0, c1⟩
theorem rows_weights {d : DataW H} (hw : ∀ n ∈ d.weights Try.prog 26, n ≤ 140737488351232) : True := trivial
end
end Go.Proofs.Ytdgapagpmdfndaa
