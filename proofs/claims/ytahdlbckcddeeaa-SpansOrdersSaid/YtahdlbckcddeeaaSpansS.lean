/- OPENING THE ARGUMENTS OF LAYER 14's STATEMENTS: one span. -/
import Derived.Test.YtahdlbckcddeeaaSpansO
namespace Go.Proofs.Ytahdlbckcddeeaa
open Go.ChangeShapes Go.WideShapes Go.RowKit Go.Deep
theorem open_rspan {H : Type} {enc : TypeId × Value → H} {W : World} {r : Reach} {b0 base : Nat} {sp : Nat → Bool} {held : Bool} {v : Value} {d : DataW H} {p : List MemPlace}
    (hv : Value.okWide Try.prog W r b0 42 v) (h : DataW.Trod enc Try.prog W base sp held 42 v d p) : ∃ s : Int × Int, v = .agg #[.int .i64 s.1, .int .i64 s.2] := by
  obtain ⟨cs, rfl, hsz⟩ := okWide_struct Try.underlying42 hv
  obtain ⟨l⟩ := cs
  match l, hsz.trans cellsRspn with
  | [c0, c1], _ =>
    obtain ⟨fuel, hf⟩ := h
    obtain ⟨xs, n, _, hx, _, hlen, hg⟩ := DataW.trod_struct Try.underlying42 hf
    match xs, hlen with
    | [y0, y1], _ =>
      have g0 := hg 0 _ rfl
      have g1 := hg 1 _ rfl
      simp [Value.cells, cellsInt] at g0 g1
      obtain ⟨n0, e0, _, _⟩ := DataW.trod_int Try.underlying3 g0
      obtain ⟨n1, e1, _, _⟩ := DataW.trod_int Try.underlying3 g1
      simp only [List.cons.injEq, and_true] at e0 e1
      exact ⟨(n0, n1), by rw [e0, e1]⟩
end Go.Proofs.Ytahdlbckcddeeaa
