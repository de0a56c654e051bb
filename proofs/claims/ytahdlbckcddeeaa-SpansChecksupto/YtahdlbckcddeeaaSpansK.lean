/- WALK OF THE STATEMENT SpansLevels. -/
import Derived.Test.YtahdlbckcddeeaaSpansI
import Derived.Test.YtahdlbckcddeeaaSpansD
import Derived.Test.YtahdlbckcddeeaaSpansPlain3
namespace Go.Proofs.Ytahdlbckcddeeaa
open Go.RowKit
set_option linter.unusedVariables false
/-- A slice of spans. -/
def SpansSl (w : World) (a : Option Addr) (len : Nat) (s : List (Int × Int)) : Prop := len = s.length ∧ (0 < len → ∃ b off, a = some ⟨b, off, none⟩ ∧ SpansAt w b off s)
theorem SpansSl.below {w w' : World} {a : Option Addr} {len : Nat} {s : List (Int × Int)} (h : SpansSl w a len s) (hb : Below w.heap.size w w') : SpansSl w' a len s :=
  ⟨h.1, fun h0 => by obtain ⟨b, off, ha, hi⟩ := h.2 h0; exact ⟨b, off, ha, hi.below hb⟩⟩
theorem own_spans {w : World} {base : Nat} {v : Value} {s : List (Int × Int)} (h : OwnS w base 43 2 v s.length (spnCells s)) : ∃ a cap, v = .slice a s.length cap ∧ SpansSl w a s.length s := by
  obtain ⟨a, cap, rfl⟩ := h.len
  refine ⟨a, cap, rfl, rfl, fun h0 => ?_⟩
  obtain ⟨g, cp, hv, _⟩ := h.shape h0
  cases hv
  refine ⟨g, 0, rfl, fun k hk => ?_⟩
  have h1 := h.cellAt (k * 2) (by omega)
  have h2 := h.cellAt (k * 2 + 1) (by omega)
  obtain ⟨e1, e2⟩ := spnCells_at s k hk
  rw [e1] at h1
  rw [e2] at h2
  rw [Nat.zero_add]
  exact ⟨h1, h2⟩
theorem levels_any (a : Option Addr) (len cap : Nat) (s : List (Int × Int)) (hlen : len ≤ 1048576) (w : World) (h : SpansSl w a len s) : Calls Try.prog 15 #[.slice a len cap] w (LevelsPost (refLevelsP s) w) := by
  rw [← levels_eq]
  obtain ⟨h1, h2⟩ := h
  by_cases h0 : 0 < len
  · obtain ⟨b, off, rfl, hi⟩ := h2 h0
    exact levels_some b off len cap s h1 h0 hlen w hi
  · obtain rfl : len = 0 := by omega
    have : s = [] := List.eq_nil_of_length_eq_zero h1.symm
    subst this
    exact levels_nil a cap w
theorem rlevels_any (a : Option Addr) (len cap : Nat) (s : List (Int × Int)) (hlen : len ≤ 1048576) (w : World) (h : SpansSl w a len s) : Calls Try.prog 24 #[.slice a len cap] w (LevelsPost (refLevelsP s) w) := by
  obtain ⟨h1, h2⟩ := h
  by_cases h0 : 0 < len
  · obtain ⟨b, off, rfl, hi⟩ := h2 h0
    exact rlevels_some b off len cap s h1 h0 hlen w hi
  · obtain rfl : len = 0 := by omega
    have : s = [] := List.eq_nil_of_length_eq_zero h1.symm
    subst this
    exact rlevels_nil a cap w
theorem own_any (a : Option Addr) (len cap : Nat) (s : List (Int × Int)) (hlen : len ≤ 1048576) (w : World) (h : SpansSl w a len s) : Calls Try.prog 12 #[.slice a len cap] w fun e w' => ∃ a' cap', e = .returned (.slice a' s.length cap') ∧ SpansSl w' a' s.length s ∧ Below w.heap.size w w' := by
  have key : Calls Try.prog 12 #[.slice a len cap] w (OwnPost s w) := by
    obtain ⟨h1, h2⟩ := h
    by_cases h0 : 0 < len
    · obtain ⟨b, off, rfl, hi⟩ := h2 h0
      exact own_some b off len cap s h1 h0 hlen w hi
    · obtain rfl : len = 0 := by omega
      have : s = [] := List.eq_nil_of_length_eq_zero h1.symm
      subst this
      exact own_nil a cap w
  refine key.mono ?_
  rintro e w' ⟨v, rfl, ho, hb⟩
  obtain ⟨a', cap', rfl, hs⟩ := own_spans ho
  exact ⟨a', cap', rfl, hs, hb⟩
/-- What Levels answers, as a pair of values. -/
theorem levels_pair {o : Option (List Int)} {w : World} {e : Ending} {w' : World} (h : LevelsPost o w e w') : ∃ v, e = .returned (.tuple #[v, .bool o.isSome]) ∧ OwnS w' w.heap.size 3 1 v (o.getD []).length ((o.getD []).map (Value.int .i64)) ∧ Below w.heap.size w w' := by
  cases o with
  | none => obtain ⟨he, hb⟩ := h; exact ⟨_, he, OwnS.nil _ _ _ _, hb⟩
  | some l => exact h
theorem refLevels_len {s : List (Int × Int)} : ((refLevelsP s).getD []).length ≤ s.length := by
  unfold refLevelsP
  split
  · simp
  · simp
set_option maxRecDepth 100000 in
set_option maxHeartbeats 1000000 in
theorem spansLevels_any (a : Option Addr) (len cap : Nat) (s : List (Int × Int)) (w : World) (h : SpansSl w a len s) : Calls Try.prog 8 #[.slice a len cap] w fun e w' => e = .returned (.bool true) ∧ Below w.heap.size w w' := by
  by_cases hlen : len ≤ 300
  · have HO := Lib.hid (own_any a len cap s (by omega) w h)
    have HS := Lib.hid h
    have HL := Lib.hid h.1
    clear h
    go_enter Try.func8, Try.ntmps8
    go_wp2_with fail
    refine HO.out.mono ?_
    rintro e w1 ⟨a', cap', rfl, hs1, hb1⟩
    have HS1 := Lib.hid hs1
    clear hs1 HO
    go_wp2_with fail
    refine (levels_any a' s.length cap' s (by rw [← HL.out]; omega) _ HS1.out).mono ?_
    intro e w2 hp
    obtain ⟨v2, rfl, ho2, hb2⟩ := levels_pair hp
    clear hp
    go_wp2_with fail
    refine (rlevels_any a len cap s (by omega) _ ((HS.out.below hb1).below hb2)).mono ?_
    intro e w3 hp
    obtain ⟨v3, rfl, ho3, hb3⟩ := levels_pair hp
    clear hp
    generalize hq : (refLevelsP s).isSome = q
    have HQ := Lib.hid hq
    clear hq
    go_wp2_with fail
    refine (alive_any _).mono ?_
    rintro e w4 ⟨rfl, hb4⟩
    have hb24 := hb3.trans (hb4.mono hb3.size)
    cases q
    all_goals (
      go_wp2_with fail
      refine (ints_any _ _ v2 v3 _ _ (Nat.le_trans refLevels_len (by rw [← HL.out]; omega)) _ (ho2.below hb24) (ho3.below hb4)).mono ?_
      rintro e w5 ⟨rfl, hb5⟩
      rw [beq_self_eq_true]
      go_wp2_with fail
      go_ret
      exact ⟨rfl, (hb1.trans (hb2.mono hb1.size)).trans ((hb24.trans (hb5.mono hb24.size)).mono (Nat.le_trans hb1.size hb2.size))⟩)
  · have hl : 300 < len := by omega
    clear hlen h
    go_enter Try.func8, Try.ntmps8
    go_wp2_with fail
    refine (alive_any _).mono ?_
    rintro e w4 ⟨rfl, hb4⟩
    go_wp2_with fail
    go_ret
    exact ⟨rfl, hb4⟩
end Go.Proofs.Ytahdlbckcddeeaa
