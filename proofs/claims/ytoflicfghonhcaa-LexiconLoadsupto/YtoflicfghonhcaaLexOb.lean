/- OPENING THE ARGUMENTS OF LAYER 15's STATEMENTS: rows of texts. -/
import Derived.Test.YtoflicfghonhcaaLexO
import Derived.Test.YtoflicfghonhcaaLexLa
namespace Go.Proofs.Ytoflicfghonhcaa
open Go.ChangeShapes Go.WideShapes Go.RowKit Go.Deep
set_option linter.unusedVariables false
section
variable {H : Type} {enc : TypeId × Value → H} {W : World} {base : Nat} {sp : Nat → Bool} {held : Bool}
/-- A row of texts: opened. -/
theorem open_texts {M : Nat} {r : Reach} {b0 : Nat} {v : Value} {d : DataW H} {p : List MemPlace} (hv : Value.okWide Try.prog W r b0 47 v) (h : DataW.Trod enc Try.prog W base sp held 47 v d p)
    (hS : ∀ el spare, d = .slice el spare → ∀ s, DataW.lit (.string s) ∈ el → s.length ≤ M) : ∃ xs, TextsAt M W v xs := by
  obtain ⟨a, len, cap, rfl⟩ := okWide_slice Try.underlying47 hv
  obtain ⟨fuel, h⟩ := h
  rcases open_slice Try.underlying47 h with ⟨hc, hx⟩ | ⟨a', len', cap', m, k, D, Pl, hc, _, hl, hm, hmm, hx, hall⟩
  · simp [Value.cells] at hc
    obtain ⟨rfl, rfl, rfl⟩ := hc
    exact ⟨[], ⟨none, 0, rfl, fun h => absurd h (by simp)⟩, fun o ho => by cases ho⟩
  · simp only [Value.cells, List.cons.injEq, and_true, Value.slice.injEq] at hc
    obtain ⟨rfl, rfl, rfl⟩ := hc
    have hlm : len ≤ m := by rw [hmm]; split <;> omega
    simp only [Prod.mk.injEq] at hx
    obtain ⟨rfl, _⟩ := hx
    have each : ∀ i, i < len → ∃ x : ByteArray, W.cell? (a'.add i) = some (.string x) ∧ x.size ≤ M := fun i hi => by
      obtain ⟨cs', h1, h2⟩ := hall i (by omega)
      rw [cellsStr] at h1
      obtain ⟨_, hlen, hcell⟩ := World.cells?_some h1
      obtain ⟨n0, c0, f0, _⟩ := DataW.trod_string Try.underlying9 h2
      subst c0
      have e0 := hcell 0 (by omega)
      rw [add_add] at e0
      simp only [Prod.mk.injEq] at f0
      have hin : D i ∈ (List.range len).map D := List.mem_map.2 ⟨i, List.mem_range.2 hi, rfl⟩
      rw [f0.1] at hin
      have hsz := hS _ _ rfl _ hin
      rw [len_data] at hsz
      exact ⟨n0, by simpa using e0, hsz⟩
    obtain ⟨q, hq⟩ := choose_lt each
    have hget : ∀ i, i < len → ((List.range len).map q).getD i default = q i := fun i hi => by simp [List.getD_eq_getElem?_getD, hi]
    refine ⟨(List.range len).map q, ⟨some a', cap, by simp, fun h0 => ?_⟩, fun o ho => ?_⟩
    · have h0 : 0 < len := by simpa using h0
      obtain ⟨b, off, spot⟩ := a'
      obtain ⟨hq0, _⟩ := hq 0 h0
      have hspot : spot = none := by simpa [Addr.add] using World.cell?_spot hq0
      subst hspot
      rw [add_flat] at hq0
      refine ⟨b, off, rfl, block_lt_of_cell hq0, fun i hi => ?_⟩
      have hi' : i < len := by simpa using hi
      rw [hget i hi']
      obtain ⟨c0, _⟩ := hq i hi'
      rw [add_flat] at c0
      exact c0
    · obtain ⟨i, hi, rfl⟩ := List.mem_map.1 ho
      exact (hq i (List.mem_range.1 hi)).2
theorem texts_bulk {d : DataW H} (hbk : Rows.uptoBulk d ≤ 1048576) : ∀ el spare, d = .slice el spare → ∀ s, DataW.lit (.string s) ∈ el → s.length ≤ 35184372088832 := by
  rintro el spare rfl s hin
  have := bulk_mem hin
  simp only [Rows.uptoBulk] at this hbk
  omega
end
end Go.Proofs.Ytoflicfghonhcaa
