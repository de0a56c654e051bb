/- OPENING THE ARGUMENTS OF LAYER 14's STATEMENTS: items. -/
import Derived.Test.YtahdlbckcddeeaaSpansO
import Derived.Test.YtahdlbckcddeeaaParseC
namespace Go.Proofs.Ytahdlbckcddeeaa
open Go.ChangeShapes Go.WideShapes Go.RowKit Go.Deep
set_option linter.unusedVariables false
theorem cellsItem : Try.prog.cellsOf 37 = 5 := by kernel_rfl
theorem cellsAttr : Try.prog.cellsOf 66 = 2 := by kernel_rfl
theorem cellsStr : Try.prog.cellsOf 9 = 1 := by kernel_rfl
theorem cellsAttrs : Try.prog.cellsOf 35 = 1 := by kernel_rfl
section
variable {H : Type} {enc : TypeId × Value → H} {W : World} {base : Nat} {sp : Nat → Bool} {held : Bool}
theorem bytesAttr : Try.prog.bytesOf 66 = 32 := by kernel_rfl
theorem bytesItem : Try.prog.bytesOf 37 = 72 := by kernel_rfl
theorem weightsAll_mem {P : Program} {e : TypeId} {l : List (DataW H)} {d : DataW H} (h : d ∈ l) {n : Nat} (hn : n ∈ d.weights P e) : n ∈ DataW.weightsAll P e l := by
  induction l with
  | nil => cases h
  | cons a r ih =>
    simp only [DataW.weightsAll, List.mem_append]
    rcases List.mem_cons.1 h with rfl | h
    · exact .inl hn
    · exact .inr (ih h)
theorem len_data (s : ByteArray) : s.data.toList.length = s.size := by rw [Array.length_toList]; rfl
/-- Attributes: opened, if all that they weigh is small. -/
theorem open_attrs {fuel : Nat} {v : Value} {d : DataW H} {p : List MemPlace} (h : DataW.trod enc Try.prog W base sp held fuel 35 [v] = some (d, p))
    (hw : ∀ n ∈ d.weights Try.prog 35, n ≤ 140737488351232) : ∃ ao al ac ats, v = .slice ao al ac ∧ AttrsAt W ao al ats := by
  rcases open_slice_pairs Try.underlying35 Try.underlying66 cellsAttr rfl rfl cellsStr cellsStr h with ⟨hc, hx⟩ | ⟨a', len, cap, m, k, V0, V1, D0, D1, P0, P1, hc, _, hl, hm, hmm, hx, hall⟩
  · simp only [List.cons.injEq, and_true] at hc
    exact ⟨none, 0, 0, [], hc, ⟨rfl, fun h => absurd h (by omega), fun j hj => absurd hj (by omega), by omega⟩⟩
  · simp only [List.cons.injEq, and_true] at hc
    have hlm : len ≤ m := by rw [hmm]; split <;> omega
    simp only [Prod.mk.injEq] at hx
    obtain ⟨rfl, _⟩ := hx
    have hbig : len * 32 ≤ 140737488351232 := by
      have := hw ((((List.range len).map fun i => DataW.agg [D0 i, D1 i]).length + ((List.range (m - len)).map fun j => DataW.agg [D0 (len + j), D1 (len + j)]).length) * Try.prog.bytesOf 66) (by simp [DataW.weights, Try.underlying35])
      rw [bytesAttr] at this
      simp at this
      omega
    have each : ∀ i, i < len → ∃ q : ByteArray × ByteArray, W.cell? (a'.add (i * 2)) = some (.string q.1) ∧ W.cell? (a'.add (i * 2 + 1)) = some (.string q.2) ∧ q.1.size ≤ 140737488351232 ∧ q.2.size ≤ 140737488351232 := fun i hi => by
      obtain ⟨h1, h2, h3, h4⟩ := hall i (by omega)
      obtain ⟨n0, e0, f0, _⟩ := DataW.trod_string Try.underlying9 h3
      obtain ⟨n1, e1, f1, _⟩ := DataW.trod_string Try.underlying9 h4
      simp only [List.cons.injEq, and_true] at e0 e1
      simp only [Prod.mk.injEq] at f0 f1
      have hmem : ∀ n ∈ (DataW.agg [D0 i, D1 i]).weights Try.prog 66, n ≤ 140737488351232 := fun n hn => hw n (by
        simp only [DataW.weights, Try.underlying35]
        refine List.mem_cons_of_mem _ (List.mem_append_left _ ?_)
        exact weightsAll_mem (List.mem_map.2 ⟨i, List.mem_range.2 hi, rfl⟩) hn)
      have w0 := hmem n0.data.toList.length (by rw [f0.1]; simp [DataW.weights, DataW.weightsEach, Try.underlying66])
      have w1 := hmem n1.data.toList.length (by rw [f1.1]; simp [DataW.weights, DataW.weightsEach, Try.underlying66])
      rw [len_data] at w0 w1
      exact ⟨(n0, n1), by rw [h1, e0], by rw [h2, e1], w0, w1⟩
    obtain ⟨q, hq⟩ := choose_lt each
    have hget : ∀ i, i < len → ((List.range len).map q).getD i default = q i := fun i hi => by simp [List.getD_eq_getElem?_getD, hi]
    refine ⟨some a', len, cap, (List.range len).map q, hc, ⟨by simp, fun h0 => ?_, fun j hj => ?_, by omega⟩⟩
    · obtain ⟨b, off, spot⟩ := a'
      have hspot : spot = none := by simpa [Addr.add] using World.cell?_spot (hq 0 h0).1
      subst hspot
      refine ⟨b, off, rfl, ?_, fun j hj => ?_⟩
      · have := (hq 0 h0).1
        rw [add_flat] at this
        exact block_lt_of_cell this
      · obtain ⟨c1, c2, _⟩ := hq j hj
        rw [add_flat] at c1 c2
        rw [hget j hj]
        exact ⟨c1, c2⟩
    · rw [hget j hj]
      exact (hq j hj).2.2
/-- Items: opened, if all that they weigh is small. -/
theorem open_items {r : Reach} {b0 : Nat} {v : Value} {d : DataW H} {p : List MemPlace} (hv : Value.okWide Try.prog W r b0 22 v) (h : DataW.Trod enc Try.prog W base sp held 22 v d p)
    (hw : ∀ n ∈ d.weights Try.prog 22, n ≤ 140737488351232) : ∃ a len cap L, v = .slice a len cap ∧ ItemsSl W a len L := by
  obtain ⟨a, len, cap, rfl⟩ := okWide_slice Try.underlying22 hv
  obtain ⟨fuel, h⟩ := h
  refine ⟨a, len, cap, ?_⟩
  rcases open_slice Try.underlying22 h with ⟨hc, hx⟩ | ⟨a', len', cap', m, k, D, Pl, hc, _, hl, hm, hmm, hx, hall⟩
  · simp [Value.cells] at hc
    obtain ⟨rfl, rfl, rfl⟩ := hc
    exact ⟨[], rfl, rfl, by omega, fun h => absurd h (by omega)⟩
  · simp [Value.cells] at hc
    obtain ⟨rfl, rfl, rfl⟩ := hc
    have hlm : len ≤ m := by rw [hmm]; split <;> omega
    simp only [Prod.mk.injEq] at hx
    obtain ⟨rfl, _⟩ := hx
    have hbig : len * 72 ≤ 140737488351232 := by
      have := hw ((((List.range len).map D).length + ((List.range (m - len)).map fun j => D (len + j)).length) * Try.prog.bytesOf 37) (by simp [DataW.weights, Try.underlying22])
      rw [bytesItem] at this
      simp at this
      omega
    have each : ∀ i, i < len → ∃ x : Item, ∃ ao al ac, W.cell? (a'.add (i * 5)) = some (.int .i64 x.level) ∧ W.cell? (a'.add (i * 5 + 1)) = some (.int .i64 x.kind) ∧ W.cell? (a'.add (i * 5 + 2)) = some (.string x.name) ∧ W.cell? (a'.add (i * 5 + 3)) = some (.string x.text) ∧
        W.cell? (a'.add (i * 5 + 4)) = some (.slice ao al ac) ∧ AttrsAt W ao al x.attrs ∧ x.name.size ≤ 140737488351232 ∧ x.text.size ≤ 140737488351232 := fun i hi => by
      obtain ⟨cs', h1, h2⟩ := hall i (by omega)
      rw [cellsItem] at h1
      obtain ⟨_, hlen, hcell⟩ := World.cells?_some h1
      obtain ⟨xs, n, _, hxy, _, hxl, hf⟩ := DataW.trod_struct Try.underlying37 h2
      match xs, hxl, cs', hlen with
      | [y0, y1, y2, y3, y4], _, [v0, v1, v2, v3, v4], _ =>
        have g0 := hf 0 _ rfl
        have g1 := hf 1 _ rfl
        have g2 := hf 2 _ rfl
        have g3 := hf 3 _ rfl
        have g4 := hf 4 _ rfl
        simp [cellsInt, cellsStr, cellsAttrs] at g0 g1 g2 g3 g4
        have e0 := hcell 0 (by omega)
        have e1 := hcell 1 (by omega)
        have e2 := hcell 2 (by omega)
        have e3 := hcell 3 (by omega)
        have e4 := hcell 4 (by omega)
        rw [add_add] at e0 e1 e2 e3 e4
        simp only [Prod.mk.injEq] at hxy
        obtain ⟨n0, c0, f0, _⟩ := DataW.trod_int Try.underlying3 g0
        obtain ⟨n1, c1, f1, _⟩ := DataW.trod_int Try.underlying3 g1
        obtain ⟨n2, c2, f2, _⟩ := DataW.trod_string Try.underlying9 g2
        obtain ⟨n3, c3, f3, _⟩ := DataW.trod_string Try.underlying9 g3
        simp only [List.cons.injEq, and_true] at c0 c1 c2 c3
        have hmem : ∀ n ∈ (D i).weights Try.prog 37, n ≤ 140737488351232 := fun n hn => hw n (by
          simp only [DataW.weights, Try.underlying22]
          refine List.mem_cons_of_mem _ (List.mem_append_left _ ?_)
          exact weightsAll_mem (List.mem_map.2 ⟨i, List.mem_range.2 hi, rfl⟩) hn)
        have w2 := hmem n2.data.toList.length (by rw [hxy.1, f2]; simp [DataW.weights, DataW.weightsEach, Try.underlying37])
        have w3 := hmem n3.data.toList.length (by rw [hxy.1, f3]; simp [DataW.weights, DataW.weightsEach, Try.underlying37])
        rw [len_data] at w2 w3
        obtain ⟨ao, al, ac, ats, c4, hat⟩ := open_attrs g4 (fun n hn => hmem n (by rw [hxy.1]; simp [DataW.weights, DataW.weightsEach, Try.underlying37, hn]))
        refine ⟨⟨n0, n1, n2, n3, ats⟩, ao, al, ac, ?_, ?_, ?_, ?_, ?_, hat, w2, w3⟩
        · simpa [c0] using e0
        · simpa [c1] using e1
        · simpa [c2] using e2
        · simpa [c3] using e3
        · simpa [c4] using e4
    obtain ⟨q, hq⟩ := choose_lt each
    refine ⟨(List.range len).map q, rfl, by simp, by omega, fun h0 => ?_⟩
    obtain ⟨b, off, spot⟩ := a'
    obtain ⟨_, _, _, hq0, _⟩ := hq 0 h0
    have hspot : spot = none := by simpa [Addr.add] using World.cell?_spot hq0
    subst hspot
    refine ⟨b, off, rfl, fun i hi => ?_⟩
    have hi' : i < len := by simpa using hi
    have e : ((List.range len).map q).getD i default = q i := by simp [List.getD_eq_getElem?_getD, hi']
    rw [e]
    obtain ⟨ao, al, ac, c0, c1, c2, c3, c4, hat, s1, s2⟩ := hq i hi'
    rw [add_flat] at c0 c1 c2 c3 c4
    exact ⟨c0, c1, c2, c3, ⟨ao, al, ac, c4, hat⟩, s1, s2⟩
end
end Go.Proofs.Ytahdlbckcddeeaa
