/- LAYER 13 (tabula): stands. -/
import Derived.Test.YtdgapagpmdfndaaTabZb
import Derived.ControlIn
import Derived.StillTailTactics
import Derived.ChangeKeysEq
import Derived.Laws.StructEq
namespace Go.Proofs.Ytdgapagpmdfndaa
open Go.RowKit Go.Shelf
set_option linter.unusedVariables false
attribute [local go_sem] Oper.semAt_some
theorem eq_arr (a b : Int) (w : World) : (Op.equalIn 10000 46 (.agg #[.int .i64 a, .int .i64 b]) (.agg #[.int .i64 a, .int .i64 b])).run Try.prog w = .ok true w := by
  have hu : Try.prog.underlying 46 = some (.array 2 3) := by kernel_rfl
  have hp : Try.prog.plainKey 3 = true := by kernel_rfl
  have hc : Try.prog.cellsOf 3 = 1 := by kernel_rfl
  obtain ⟨i, hi⟩ : ∃ i, Try.prog.info? 3 = some i := info_of_underlying Try.underlying3
  rw [show (10000 : Nat) = 9999 + 1 from rfl, run_equalIn_array w 9999 _ _ hu hi, hc]
  have p0 : (part 3 #[.int .i64 a, .int .i64 b] 0).run Try.prog w = .ok (.int .i64 a) w := run_part_plain w hp rfl
  have p1 : (part 3 #[.int .i64 a, .int .i64 b] 1).run Try.prog w = .ok (.int .i64 b) w := run_part_plain w hp rfl
  have q0 := fun x => run_equalIn_int (P := Try.prog) w 9998 3 .i64 .i64 x x Try.underlying3
  have hr : List.range 2 = [0, 1] := rfl
  rw [hr]
  simp [Op.eqItems, p0, p1, q0]
/-- The result of a function that returns a bool by its cell. -/
theorem results_bool {fn : Func} {p : Tmp} {tmps : Array Value} {w : World} {g : Nat} {b : Bool} (h : fn.results = #[.cell p 4]) (hp : tmps.getD p undef = .pointer (some ⟨g, 0, none⟩)) (hc : w.cell? ⟨g, 0, none⟩ = some (.bool b)) :
    (results fn tmps).run Try.prog w = .ok (.bool b) w := by
  have hp' : tmps[p]?.getD undef = .pointer (some ⟨g, 0, none⟩) := by simpa using hp
  simp [results, h, hp', asAddr, go_sem, hc]
theorem pre_at {l pre : List Row} {x : Row} (h : pre ++ [x] <+: l) : pre.length < l.length ∧ l.getD pre.length default = x := by
  obtain ⟨r, rfl⟩ := h
  constructor
  · simp
  · simp
attribute [local go_sem] eq_arr
set_option maxRecDepth 100000 in
set_option maxHeartbeats 2000000 in
theorem stands_L {w : World} {B t : Nat} {l : List Row} {F : Nat → Prop} {lv : Value} (h : TabL w B t l F) (hd : DocAt w F lv l) :
    Calls Try.prog 13 #[.pointer (some ⟨t, 0, none⟩), lv] w fun e w' => e = .returned (.bool true) ∧ Below w.heap.size w w' := by
  have hm := h.many
  obtain ⟨a, cap, rfl, hcell⟩ := hd.val
  have HC := Lib.hid hcell
  have HT := Lib.hid h
  obtain ⟨n, hnn⟩ : ∃ n, n = l.length := ⟨_, rfl⟩
  have HN := Lib.hid hnn
  rw [← hnn] at hm ⊢
  clear hcell hd hnn
  obtain ⟨d, k, tab, hkl, _, hF⟩ := h
  have HK := Lib.hid (And.intro hkl hF)
  clear hkl hF
  refine (callsIn_wide (n := 4)).1 ?_
  refine callsIn_of_wp_marks Try.func13 rfl trivial ?_ rfl
  simp only [Try.ntmps13, List.size_toArray, List.length_cons, List.length_nil, Nat.reduceAdd, Nat.reduceSub, Array.replicate_succ, Array.replicate_zero, List.push_toArray, List.append_toArray, List.nil_append, List.cons_append]
  refine wpIn_wide.2 ?_
  go_wp2_with fail
  have hsz : w.heap.size + 3 = (((w.alloc (.cells #[.slice a n cap] 26)).alloc (.cells #[.bool false] 4)).alloc (.cells #[.int .i64 0] 3)).heap.size := by simp
  have hb0 : Below w.heap.size w (((w.alloc (.cells #[.slice a n cap] 26)).alloc (.cells #[.bool false] 4)).alloc (.cells #[.int .i64 0] 3)) := (((Below.refl _ w).alloc (Nat.le_refl _) _).alloc (by simp) _).alloc (by simp; omega) _
  have r0 : (((w.alloc (.cells #[.slice a n cap] 26)).alloc (.cells #[.bool false] 4)).alloc (.cells #[.int .i64 0] 3)).heap[w.heap.size]? = some (.cells #[.slice a n cap] 26 (0, 0)) := by
    rw [Below.heap_alloc _ _ _ (by simp; omega), Below.heap_alloc _ _ _ (by simp)]; exact heap_alloc_new _ _
  have r1 : (((w.alloc (.cells #[.slice a n cap] 26)).alloc (.cells #[.bool false] 4)).alloc (.cells #[.int .i64 0] 3)).heap[w.heap.size + 1]? = some (.cells #[.bool false] 4 (0, 0)) := by
    rw [Below.heap_alloc _ _ _ (by simp)]
    have := heap_alloc_new (w.alloc (.cells #[.slice a n cap] 26)) (.cells #[.bool false] 4)
    simpa using this
  have r2 : (((w.alloc (.cells #[.slice a n cap] 26)).alloc (.cells #[.bool false] 4)).alloc (.cells #[.int .i64 0] 3)).heap[w.heap.size + 2]? = some (.cells #[.int .i64 0] 3 (0, 0)) := by
    have := heap_alloc_new ((w.alloc (.cells #[.slice a n cap] 26)).alloc (.cells #[.bool false] 4)) (.cells #[.int .i64 0] 3)
    simpa using this
  have htab := tab.below hb0
  have hmin := fun x hx => (tab.lt x hx).1
  generalize World.alloc _ (.cells #[.int .i64 0] 3) = W0 at *
  refine (wpIn_wide (n := 4)).1 ?_
  refine wpIn_rangeAll 4 (t := t) (k := k) rfl rfl htab w.heap.size (by omega) hmin
    (fun pre W => W.heap[w.heap.size]? = some (.cells #[.slice a n cap] 26 (0, 0)) ∧ W.heap[w.heap.size + 1]? = some (.cells #[.bool false] 4 (0, 0)) ∧ W.heap[w.heap.size + 2]? = some (.cells #[.int .i64 (pre.length : Int)] 3 (0, 0)) ∧ Below w.heap.size w W)
    (fun _ _ _ => False) ?own (fun _ _ _ _ _ hs _ _ => hs) ⟨r0, r1, r2, hb0⟩
    (fun x => { tmps := #[.pointer (some ⟨t, 0, none⟩), .slice a n cap, undef, .pointer (some ⟨w.heap.size, 0, none⟩), .pointer (some ⟨w.heap.size + 1, 0, none⟩), .pointer (some ⟨w.heap.size + 2, 0, none⟩), .int .i64 x.1, .int .i64 x.2, .pointer (some ⟨t, 0, none⟩),
      .func (.func 18) #[.pointer (some ⟨t, 0, none⟩)] #[], .int .i64 x.1, .int .i64 x.2, undef, undef, undef, undef, undef, undef, undef, undef, undef, undef, undef, undef, undef, undef, undef, undef, undef, undef, undef, undef, undef, undef, undef, undef, undef, undef], defers := [] }) ?assign ?body ?done ?stop
  case own =>
    rintro pre A A' row ⟨h0, h1, h2, hB⟩ hg hr
    have hk : ∀ (x : Nat) (c : Obj), c.isCells = true → A.heap[x]? = some c → A'.heap[x]? = some c := fun x c hc hx => ((grown_frm hg).block _ (lt_of_block hx) fun e => by
      obtain ⟨o, ho, hc2⟩ := (hr _ e).2
      rw [hx] at ho
      cases ho
      rw [hc] at hc2
      cases hc2).trans hx
    exact ⟨hk _ _ rfl h0, hk _ _ rfl h1, hk _ _ rfl h2, hB.grown hg hB.size fun r e => by have := (hr r e).1; omega⟩
  case assign =>
    intro l m x W K hK
    dsimp only [rowArgs]
    gi_wp2
    exact hK
  case body =>
    rintro l' m pre x W ⟨h0, h1, h2, hBW⟩ hpfx hsz2
    rw [HK.out.1] at hpfx
    obtain ⟨hlen, hx⟩ := pre_at hpfx
    obtain ⟨b, off, hab, hblt, _, hcx⟩ := HC.out (by omega)
    subst hab
    obtain ⟨c1, c2⟩ := hcx pre.length hlen
    rw [hx] at c1 c2
    have c1 := (hBW.cell (p := ⟨b, off + pre.length * 2, none⟩) (by exact hblt)).trans c1
    have c2 := (hBW.cell (p := ⟨b, off + pre.length * 2 + 1, none⟩) (by exact hblt)).trans c2
    have k0 : W.cell? ⟨w.heap.size, 0, none⟩ = some (.slice (some ⟨b, off, none⟩) n cap) := by rw [cell_of_row _ _ 0 _ _ _ h0]; rfl
    have k2 : W.cell? ⟨w.heap.size + 2, 0, none⟩ = some (.int .i64 (pre.length : Int)) := by rw [cell_of_row _ _ 0 _ _ _ h2]; rfl
    have hfz := free_row h2 0
    rw [← HN.out] at hlen
    have hnot : ¬ (n : Int) ≤ (pre.length : Int) := by omega
    have HW := Lib.hid (And.intro h0 (And.intro h1 (And.intro h2 hBW)))
    clear h0 h1 h2 hBW hx hcx hpfx
    obtain ⟨i, hi⟩ : ∃ i, i = pre.length := ⟨_, rfl⟩
    rw [← hi] at hlen c1 c2 k2 hnot
    have HI := Lib.hid hi
    clear hi
    gi_wp2
    obtain ⟨h0, h1, h2, hBW⟩ := HW.out
    have hb3 : Below w.heap.size W (W.setCell ⟨w.heap.size + 2, 0, none⟩ (.int .i64 ((i : Int) + 1))) := (Below.refl _ W).setCell (by simp) _
    refine ⟨KeepsOthers.setCell W _ _, hb3, ⟨?_, ?_, ?_, hBW.trans hb3⟩⟩
    · exact (Below.heap_setCell _ _ _ _ (by show w.heap.size ≠ w.heap.size + 2; omega)).trans h0
    · exact (Below.heap_setCell _ _ _ _ (by show w.heap.size + 1 ≠ w.heap.size + 2; omega)).trans h1
    · rw [heap_setCell_same _ _ _ _ _ _ h2]
      simp [HI.out]
  case done =>
    rintro D W hD ⟨h0, h1, h2, hBW⟩ hK
    rw [HK.out.1, ← HN.out] at h2
    have k0 : W.cell? ⟨w.heap.size, 0, none⟩ = some (.slice a n cap) := by rw [cell_of_row _ _ 0 _ _ _ h0]; rfl
    have k1 : W.cell? ⟨w.heap.size + 1, 0, none⟩ = some (.bool false) := by rw [cell_of_row _ _ 0 _ _ _ h1]; rfl
    have k2 : W.cell? ⟨w.heap.size + 2, 0, none⟩ = some (.int .i64 (n : Int)) := by rw [cell_of_row _ _ 0 _ _ _ h2]; rfl
    have hfz := free_row h1 0
    have HT2 := Lib.hid (HT.out.below hBW)
    have HW := Lib.hid (And.intro h0 (And.intro h1 (And.intro h2 (And.intro hBW hK))))
    clear h0 h1 h2 hBW hK
    go_wp2_with fail
    have HLEN := Lib.hid (len_L (HT2.out.below ((Below.refl _ W).drew)))
    rw [← HN.out] at HLEN
    go_still_tail 10, (by kernel_rfl)
    change wpStill _ _ W.drew _ _ _
    still_call HLEN.out
    repeat still_step
    refine wpStill_nil ?_
    change wpList _ _ _ _ _ W.drew
    go_wp2_with fail
    refine ⟨by simp, .inl ⟨_, _, rfl, run_takeDeferred (((KeepsOthers.setCell W ⟨w.heap.size + 1, 0, none⟩ (.bool true)).trans (KeepsOthers.drew _)).same D _ HW.out.2.2.2.2 rfl), ?_⟩⟩
    obtain ⟨h0, h1, h2, hBW, hK⟩ := HW.out
    have hDs : w.heap.size + 1 ≠ D := fun e => by rw [← e, h1] at hK; cases hK
    have hrow : ((W.setCell ⟨w.heap.size + 1, 0, none⟩ (.bool true)).drew.putObj D (.deferred none)).heap[w.heap.size + 1]? = some (.cells #[.bool true] 4 (0, 0)) := by
      refine (World.putObj_heap_other hDs).trans ?_
      refine (heap_setCell_same _ _ _ _ _ _ h1).trans ?_
      rfl
    refine ⟨_, results_bool rfl (by rfl) (by rw [cell_of_row _ _ 0 _ _ _ hrow]; rfl), rfl, ?_⟩
    have hb1 : Below w.heap.size w (W.setCell ⟨w.heap.size + 1, 0, none⟩ (.bool true)).drew := (hBW.setCell (by simp) _).drew
    exact hb1.grown (grownBy_putObj' _ D _) (by simpa using hBW.size) fun j e => by cases e; omega
  case stop =>
    rintro D c pre W _ _ h _
    exact h.elim
end Go.Proofs.Ytdgapagpmdfndaa
