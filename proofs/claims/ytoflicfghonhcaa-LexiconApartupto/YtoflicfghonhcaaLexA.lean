/- WALKS OF LAYER 15 (lexicon): what a book holds in memory; what only reads it. -/
import Derived.Test.YtoflicfghonhcaaRows
import Derived.Test.YtoflicfghonhcaaKit
import Derived.WalkKit
import Derived.WalkSpells
import Derived.WalkLawsBesides
import Derived.Laws.CopyOwn
import Derived.Lib.Hide
import Derived.Deep.QuietTactic
import Derived.BigQuiet
import Derived.IntWalk
import Derived.OneCell
import Derived.WalkMore
import Derived.Maps.OwnSet
namespace Go.Proofs.Ytoflicfghonhcaa
open Go.RowKit Go.WideMaps Go.Maps
set_option linter.unusedVariables false
theorem nameKey : Keyed Try.prog 9 := string_keyed Try.underlying9
theorem zeroInt (w : World) : (zeroValue 3).run Try.prog w = .ok (.int .i64 0) w := by kernel_rfl
/-- A map of names to numbers: what it answers, how many it has. -/
def NumsAt (w : World) (mb n : Nat) (f : ByteArray → Option Nat) (cnt : Nat) : Prop :=
  ∃ D : DataW Unit, w.ownsMap Try.prog 9 (plainElem Try.prog 3) mb n D ∧ Maps.size D = cnt ∧
    ∀ s : ByteArray, Maps.has D (.string s.data.toList) = (f s).isSome ∧ D.atKey (.string s.data.toList) (.lit (.int .i64 0)) = .lit (.int .i64 (((f s).getD 0 : Nat) : Int))
def wordCells (ws : List (ByteArray × Nat)) : List Value := ws.flatMap (fun x => [.string x.1, .int .i64 (x.2 : Int)])
theorem wordCells_len (o : List (ByteArray × Nat)) : (wordCells o).length = o.length * 2 := by
  induction o with
  | nil => rfl
  | cons a r ih => simp only [wordCells, List.flatMap_cons, List.length_append, List.length_cons, List.length_nil] at ih ⊢; omega
theorem wordCells_append (o p : List (ByteArray × Nat)) : wordCells (o ++ p) = wordCells o ++ wordCells p := by simp [wordCells]
theorem wordCells_at (o : List (ByteArray × Nat)) (k : Nat) (h : k < o.length) : (wordCells o)[k * 2]? = some (.string (o.getD k default).1) ∧ (wordCells o)[k * 2 + 1]? = some (.int .i64 ((o.getD k default).2 : Nat)) := by
  induction o generalizing k with
  | nil => simp at h
  | cons a r ih =>
    have e2 : wordCells (a :: r) = .string a.1 :: .int .i64 (a.2 : Int) :: wordCells r := rfl
    cases k with
    | zero => rw [e2]; exact ⟨rfl, rfl⟩
    | succ k =>
      have e : (k + 1) * 2 = k * 2 + 1 + 1 := by omega
      have := ih k (by simpa using h)
      rw [e2, e]
      simpa using this
/-- A book: its block (p), the words, the map (mb). -/
structure BookAt (w : World) (B p : Nat) (vw : Value) (mb n : Nat) (ws : List (ByteArray × Nat)) (f : ByteArray → Option Nat) (cnt : Nat) : Prop where
  row : w.heap[p]? = some (.cells #[vw, .map (some mb)] 62 (0, 0))
  own : OwnS w B 65 2 vw ws.length (wordCells ws)
  nums : NumsAt w mb n f cnt
  bp : B ≤ p
  bm : B ≤ mb
theorem NumsAt.below {w w' : World} {mb n : Nat} {f : ByteArray → Option Nat} {cnt : Nat} (h : NumsAt w mb n f cnt) (hb : Below w.heap.size w w') : NumsAt w' mb n f cnt := by
  obtain ⟨D, ⟨es, clock, hh, r⟩, h2⟩ := h
  exact ⟨D, ⟨es, clock, (hb.block _ (Array.getElem?_eq_some_iff.1 hh).1).trans hh, r⟩, h2⟩
theorem BookAt.below {w w' : World} {B p : Nat} {vw : Value} {mb n : Nat} {ws : List (ByteArray × Nat)} {f : ByteArray → Option Nat} {cnt : Nat} (h : BookAt w B p vw mb n ws f cnt) (hb : Below w.heap.size w w') : BookAt w' B p vw mb n ws f cnt :=
  ⟨(hb.block _ (lt_of_block h.row)).trans h.row, h.own.below hb, h.nums.below hb, h.bp, h.bm⟩
theorem BookAt.cell0 {w : World} {B p : Nat} {vw : Value} {mb n : Nat} {ws : List (ByteArray × Nat)} {f : ByteArray → Option Nat} {cnt : Nat} (h : BookAt w B p vw mb n ws f cnt) : w.cell? ⟨p, 0, none⟩ = some vw ∧ w.cell? ⟨p, 1, none⟩ = some (.map (some mb)) := by
  constructor
  · rw [cell_of_row w p 0 _ _ _ h.row]; rfl
  · rw [cell_of_row w p 1 _ _ _ h.row]; rfl
theorem NumsAt.len {w : World} {mb n : Nat} {f : ByteArray → Option Nat} {cnt : Nat} (h : NumsAt w mb n f cnt) (ty : TypeId) : (Builtin.len_ #[59] ty #[.map (some mb)]).run Try.prog w = .ok (.int .i64 (cnt : Int)) w := by
  obtain ⟨D, ho, hs, _⟩ := h
  rw [← hs]
  exact ho.len Try.underlying59 ty
theorem NumsAt.look {w : World} {mb n : Nat} {f : ByteArray → Option Nat} {cnt : Nat} (h : NumsAt w mb n f cnt) (s : ByteArray) (hs : s.size ≤ maxLen) : (Instr.lookup 59 (.map (some mb)) (.string s) true).run Try.prog w = .ok (.tuple #[.int .i64 (((f s).getD 0 : Nat) : Int), .bool (f s).isSome]) w := by
  obtain ⟨D, ho, _, hf⟩ := h
  obtain ⟨v, ps, hrun, hv⟩ := ho.look_ok nameKey Try.underlying59 (zeroInt w) (plainElem_int Try.underlying3 (by decide)) (keyOf_string_mk Try.underlying9 hs)
  obtain ⟨c, rfl, hc, hwc⟩ := plainElem_int_inv Try.underlying3 hv
  have hc' := congrArg Prod.fst hc
  rw [(hf s).2] at hc'
  simp only [DataW.lit.injEq, Lit.int.injEq, true_and] at hc'
  rw [hrun, (hf s).1, ← hc']
theorem len_any (B p : Nat) (vw : Value) (mb n : Nat) (ws : List (ByteArray × Nat)) (f : ByteArray → Option Nat) (cnt : Nat) (w : World) (h : BookAt w B p vw mb n ws f cnt) :
    Calls Try.prog 13 #[.pointer (some ⟨p, 0, none⟩)] w fun e w' => e = .returned (.int .i64 (cnt : Int)) ∧ w' = w := by
  obtain ⟨c0, c1⟩ := h.cell0
  have hl := h.nums.len
  clear h
  go_enter Try.func13, Try.ntmps13
  go_wp2_with fail
  go_ret
  exact ⟨rfl, rfl⟩
theorem find_any (B p : Nat) (vw : Value) (mb n : Nat) (ws : List (ByteArray × Nat)) (f : ByteArray → Option Nat) (cnt : Nat) (w : World) (h : BookAt w B p vw mb n ws f cnt) (s : ByteArray) (hs : s.size ≤ maxLen) :
    Calls Try.prog 15 #[.pointer (some ⟨p, 0, none⟩), .string s] w fun e w' => e = .returned (.tuple #[.int .i64 (((f s).getD 0 : Nat) : Int), .bool (f s).isSome]) ∧ w' = w := by
  obtain ⟨c0, c1⟩ := h.cell0
  have hl := h.nums.look s hs
  clear h
  generalize f s = r at *
  go_enter Try.func15, Try.ntmps15
  go_wp2_with fail
  go_ret2
  exact ⟨rfl, rfl⟩
/-- The word of a number; the empty one, if there is none. -/
def atW (ws : List (ByteArray × Nat)) (n : Int) : ByteArray × Nat := if n < 1 ∨ (ws.length : Int) < n then (ByteArray.empty, 0) else ws.getD (n.toNat - 1) default
set_option maxRecDepth 100000 in
set_option maxHeartbeats 1000000 in
theorem at_any (B p : Nat) (vw : Value) (mb m : Nat) (ws : List (ByteArray × Nat)) (f : ByteArray → Option Nat) (cnt : Nat) (w : World) (h : BookAt w B p vw mb m ws f cnt) (hw : ws.length ≤ 1000000) (n : Int) :
    Calls Try.prog 33 #[.pointer (some ⟨p, 0, none⟩), .int .i64 n] w fun e w' => e = .returned (.agg #[.string (atW ws n).1, .int .i64 ((atW ws n).2 : Nat)]) ∧ Below w.heap.size w w' := by
  obtain ⟨c0, c1⟩ := h.cell0
  obtain ⟨k, hk⟩ : ∃ k, k = ws.length := ⟨_, rfl⟩
  have ho := h.own
  rw [← hk] at ho hw
  obtain ⟨a, c, rfl⟩ := ho.len
  have hpw : p < w.heap.size := lt_of_block h.row
  by_cases h1 : n < 1
  · have hA : Hid (atW ws n = (ByteArray.empty, 0)) := by unfold atW; rw [if_pos (.inl h1)]; exact Lib.hid rfl
    clear h ho
    go_enter Try.func33, Try.ntmps33
    go_wp2_with fail
    refine bodyPost_ret (v := .agg #[.string ByteArray.empty, .int .i64 0]) ?_ rfl ?_
    · exact results_cell_row rfl _ _ w.heap.size 65 _ _ _ rfl (heap_alloc_new _ _) Try.underlying65 (by kernel_rfl) (by kernel_rfl)
    rw [hA.out]
    exact ⟨rfl, (Below.refl _ _).alloc (Nat.le_refl _) _⟩
  by_cases h2 : (k : Int) < n
  · have hA : Hid (atW ws n = (ByteArray.empty, 0)) := by unfold atW; rw [if_pos (.inr (by rw [← hk]; exact h2))]; exact Lib.hid rfl
    clear h ho
    go_enter Try.func33, Try.ntmps33
    go_wp2_with fail
    refine bodyPost_ret (v := .agg #[.string ByteArray.empty, .int .i64 0]) ?_ rfl ?_
    · exact results_cell_row rfl _ _ w.heap.size 65 _ _ _ rfl (heap_alloc_new _ _) Try.underlying65 (by kernel_rfl) (by kernel_rfl)
    rw [hA.out]
    exact ⟨rfl, (Below.refl _ _).alloc (Nat.le_refl _) _⟩
  · obtain ⟨j, hj⟩ : ∃ j : Nat, n = (j : Int) + 1 := ⟨(n - 1).toNat, by omega⟩
    have hA : Hid (atW ws n = ws.getD j default) := by
      unfold atW
      rw [if_neg (by rw [← hk]; omega), show n.toNat - 1 = j by omega]
      exact Lib.hid rfl
    obtain ⟨g, cp, hv, _, hg, _, _⟩ := ho.shape (by omega)
    cases hv
    obtain ⟨e1, e2⟩ := wordCells_at ws j (by omega)
    have d1 := ho.cellAt (j * 2) (by omega)
    have d2 := ho.cellAt (j * 2 + 1) (by omega)
    rw [e1] at d1
    rw [e2] at d2
    generalize ws.getD j default = x at *
    have z1 : IntKind.i64.wrap (n - 1) = (j : Int) := by rw [IntKind.wrap_i64]; omega
    have z2 : (0 : Int) ≤ (j : Int) := by omega
    have z3 : (j : Int) < (k : Int) := by omega
    clear h ho e1 e2 hj
    go_enter Try.func33, Try.ntmps33
    go_wp2_with fail
    refine bodyPost_ret (v := .agg #[.string x.1, .int .i64 (x.2 : Nat)]) ?_ rfl ?_
    · exact results_cell_row rfl _ _ w.heap.size 65 _ _ _ rfl (heap_alloc_new _ _) Try.underlying65 (by kernel_rfl) (by kernel_rfl)
    rw [hA.out]
    exact ⟨rfl, (Below.refl _ _).alloc (Nat.le_refl _) _⟩
theorem field_uses (s : ByteArray) (n : Int) (w : World) : (Instr.field 65 (.agg #[.string s, .int .i64 n]) 1).run Try.prog w = .ok (.int .i64 n) w := by kernel_rfl
set_option maxRecDepth 100000 in
theorem uses_any (B p : Nat) (vw : Value) (mb m : Nat) (ws : List (ByteArray × Nat)) (f : ByteArray → Option Nat) (cnt : Nat) (w : World) (h : BookAt w B p vw mb m ws f cnt) (hw : ws.length ≤ 1000000) (n : Int) :
    Calls Try.prog 19 #[.pointer (some ⟨p, 0, none⟩), .int .i64 n] w fun e w' => e = .returned (.int .i64 ((atW ws n).2 : Nat)) ∧ Below w.heap.size w w' := by
  have H := Lib.hid (at_any B p vw mb m ws f cnt w h hw n)
  generalize atW ws n = x at *
  clear h
  have hfl := field_uses
  go_enter Try.func19, Try.ntmps19
  go_wp2_with fail
  refine H.out.mono ?_
  rintro e w1 ⟨rfl, hb1⟩
  go_wp2_with fail
  go_ret
  exact ⟨rfl, hb1⟩
set_option maxRecDepth 100000 in
theorem bname_any (B p : Nat) (vw : Value) (mb m : Nat) (ws : List (ByteArray × Nat)) (f : ByteArray → Option Nat) (cnt : Nat) (w : World) (h : BookAt w B p vw mb m ws f cnt) (hw : ws.length ≤ 1000000) (n : Int) :
    Calls Try.prog 17 #[.pointer (some ⟨p, 0, none⟩), .int .i64 n] w fun e w' => e = .returned (.tuple #[.string (atW ws n).1, .bool (decide (0 < (atW ws n).2))]) ∧ Below w.heap.size w w' := by
  have H := Lib.hid (at_any B p vw mb m ws f cnt w h hw n)
  generalize atW ws n = x at *
  clear h
  go_enter Try.func17, Try.ntmps17
  go_wp2_with fail
  refine H.out.mono ?_
  rintro e w1 ⟨rfl, hb1⟩
  go_wp2_with fail
  go_quiet (fail)
  go_wp2_with fail
  go_ret2
  exact ⟨by simp, below_drewN (hb1.alloc hb1.size _) _⟩
/-- The least number that is free. -/
def freeFrom (ws : List (ByteArray × Nat)) : Nat → Nat → Nat
  | 0, n => n
  | m + 1, n => if (ws.getD n default).2 = 0 then n else freeFrom ws m (n + 1)
def freeW (ws : List (ByteArray × Nat)) : Nat := freeFrom ws ws.length 0 + 1
set_option maxRecDepth 100000 in
set_option maxHeartbeats 1000000 in
theorem free_any (B p : Nat) (vw : Value) (mb m : Nat) (ws : List (ByteArray × Nat)) (f : ByteArray → Option Nat) (cnt : Nat) (w : World) (h : BookAt w B p vw mb m ws f cnt) (hw : ws.length ≤ 1000000) :
    Calls Try.prog 30 #[.pointer (some ⟨p, 0, none⟩)] w fun e w' => e = .returned (.int .i64 (freeW ws : Nat)) ∧ w' = w := by
  obtain ⟨c0, c1⟩ := h.cell0
  obtain ⟨k, hk⟩ : ∃ k, k = ws.length := ⟨_, rfl⟩
  have ho := h.own
  rw [← hk] at ho hw
  obtain ⟨a, c, rfl⟩ := ho.len
  have hF : Hid (freeW ws = freeFrom ws k 0 + 1) := by rw [hk]; exact Lib.hid rfl
  have HK := Lib.hid hk
  clear h hk
  generalize freeW ws = F at *
  go_enter Try.func30, Try.ntmps30
  go_wp2_with fail
  go_step3
  go_wp2_with fail
  go_step3
  go_wp2_with fail
  go_loopw [3] (fun i wr => ∃ n : Nat, n ≤ k ∧ i = .int .i64 ((n + 1 : Nat) : Int) ∧ Hid (F = freeFrom ws (k - n) n + 1) ∧ wr = w) (fun i _ => k + 1 - (intOf i).toNat)
  case atStart => exact ⟨0, by omega, rfl, hF, rfl⟩
  case round =>
    obtain ⟨n, hn, rfl, HF, rfl⟩ := hrel
    by_cases hlt : n < k
    · obtain ⟨g, cp, hv, _, hg, _, _⟩ := ho.shape (by omega)
      cases hv
      obtain ⟨e1, e2⟩ := wordCells_at ws n (by rw [← HK.out]; exact hlt)
      have d2 := ho.cellAt (n * 2 + 1) (by omega)
      rw [e2] at d2
      have hst : Hid (F = (if (ws.getD n default).2 = 0 then n else freeFrom ws (k - (n + 1)) (n + 1)) + 1) := by
        rw [HF.out, show k - n = (k - (n + 1)) + 1 by omega]; exact Lib.hid rfl
      generalize (ws.getD n default).2 = u at *
      have z1 : IntKind.i64.wrap (((n + 1 : Nat) : Int) - 1) = (n : Int) := by rw [IntKind.wrap_i64]; omega
      clear e1 e2
      by_cases hu : u = 0
      · subst hu
        have hE : Hid (F = n + 1) := by rw [hst.out, if_pos rfl]; exact Lib.hid rfl
        go_wp2_with fail
        go_ret
        rw [hE.out]
        exact ⟨rfl, rfl⟩
      · have hu' : ((u : Int) == 0) = false := by simp; omega
        have hE : Hid (F = freeFrom ws (k - (n + 1)) (n + 1) + 1) := by rw [hst.out, if_neg hu]; exact Lib.hid rfl
        go_wp2_with fail
        go_roundw
        case rel => exact ⟨n + 1, by omega, by go_num, hE, trivial⟩
        case measure => simp [intOf]; omega
    · obtain rfl : n = k := by omega
      have hE : Hid (F = n + 1) := by rw [HF.out, Nat.sub_self]; exact Lib.hid rfl
      go_wp2_with fail
      first | go_ret | (rw [Exit.noGoto_ret]; go_ret)
      rw [hE.out]
      exact ⟨rfl, rfl⟩
end Go.Proofs.Ytoflicfghonhcaa
