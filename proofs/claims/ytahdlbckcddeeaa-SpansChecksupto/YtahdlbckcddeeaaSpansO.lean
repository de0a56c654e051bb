/- OPENING THE ARGUMENTS OF LAYER 14's STATEMENTS: spans. -/
import Derived.Test.YtahdlbckcddeeaaSpansK
import Derived.ProofKit
import Derived.OpenShut
import Derived.ShutString
import Derived.ChangeOld
import Derived.Below
import Derived.SizedLaws
import Derived.Carry
import Derived.Deep.SlicePairs
namespace Go.Proofs.Ytahdlbckcddeeaa
open Go.ChangeShapes Go.WideShapes Go.RowKit Go.Deep
set_option linter.unusedVariables false
theorem laidOut : laidOutB Try.prog = true := by kernel_rfl
theorem cellsRspn : Try.prog.cellsOf 42 = 2 := by kernel_rfl
theorem cellsInt : Try.prog.cellsOf 3 = 1 := by kernel_rfl
theorem add_flat (b off n : Nat) : (⟨b, off, none⟩ : Addr).add n = ⟨b, off + n, none⟩ := by
  unfold Addr.add
  split
  · rename_i h; have : n = 0 := by simpa using h
    subst this; rfl
  · rfl
theorem open_rspans {H : Type} {enc : TypeId × Value → H} {W : World} {r : Reach} {b0 base : Nat} {sp : Nat → Bool} {held : Bool} {v : Value} {d : DataW H} {p : List MemPlace}
    (hv : Value.okWide Try.prog W r b0 23 v) (h : DataW.Trod enc Try.prog W base sp held 23 v d p) : ∃ a len cap s, v = .slice a len cap ∧ SpansSl W a len s := by
  obtain ⟨a, len, cap, rfl⟩ := okWide_slice Try.underlying23 hv
  obtain ⟨fuel, h⟩ := h
  refine ⟨a, len, cap, ?_⟩
  rcases open_slice_pairs Try.underlying23 Try.underlying42 cellsRspn rfl rfl cellsInt cellsInt h with ⟨hc, hx⟩ | ⟨a', len', cap', m, k, V0, V1, D0, D1, P0, P1, hc, _, hl, hm, hmm, hx, hall⟩
  · simp [Value.cells] at hc
    obtain ⟨rfl, rfl, rfl⟩ := hc
    exact ⟨[], rfl, rfl, fun h => absurd h (by omega)⟩
  · simp [Value.cells] at hc
    obtain ⟨rfl, rfl, rfl⟩ := hc
    have hlm : len ≤ m := by rw [hmm]; split <;> omega
    have each : ∀ i, i < len → ∃ q : Int × Int, W.cell? (a'.add (i * 2)) = some (.int .i64 q.1) ∧ W.cell? (a'.add (i * 2 + 1)) = some (.int .i64 q.2) := fun i hi => by
      obtain ⟨h1, h2, h3, h4⟩ := hall i (by omega)
      obtain ⟨n0, e0, _, _⟩ := DataW.trod_int Try.underlying3 h3
      obtain ⟨n1, e1, _, _⟩ := DataW.trod_int Try.underlying3 h4
      simp only [List.cons.injEq, and_true] at e0 e1
      exact ⟨(n0, n1), by rw [h1, e0], by rw [h2, e1]⟩
    obtain ⟨q, hq⟩ := choose_lt each
    refine ⟨(List.range len).map q, rfl, by simp, fun h0 => ?_⟩
    obtain ⟨b, off, spot⟩ := a'
    have hspot : spot = none := by simpa [Addr.add] using World.cell?_spot (hq 0 h0).1
    subst hspot
    refine ⟨b, off, rfl, fun i hi => ?_⟩
    have hi' : i < len := by simpa using hi
    have e : ((List.range len).map q).getD i default = q i := by simp [List.getD_eq_getElem?_getD, hi']
    rw [e]
    obtain ⟨c1, c2⟩ := hq i hi'
    rw [add_flat] at c1 c2
    exact ⟨c1, c2⟩
end Go.Proofs.Ytahdlbckcddeeaa
