/- LAYER 13 (tabula): mend. -/
import Derived.Test.YtdgapagpmdfndaaTabJ
import Derived.Test.YtdgapagpmdfndaaTabL
namespace Go.Proofs.Ytdgapagpmdfndaa
open Go.RowKit Go.Shelf
set_option linter.unusedVariables false
attribute [local go_sem] Oper.semAt_some
theorem OwnS.isCells {w : World} {base : Nat} {e : TypeId} {size : Nat} {v : Value} {n : Nat} {xs : List Value} (h : OwnS w base e size v n xs) (x : Nat) (hx : v.ownBlock = some x) : ∃ cs ty f, w.heap[x]? = some (.cells cs ty f) := by
  obtain ⟨_, _, cur, hc⟩ := h.block x hx
  exact ⟨_, _, _, hc⟩
theorem TreeAt.isCells {w : World} {B lo : Nat} : ∀ {h : Nat} {k : Kid}, TreeAt w B lo h k → ∀ x, k.F x → ∃ cs ty f, w.heap[x]? = some (.cells cs ty f)
  | 0, k, ⟨rv, sv, hn, _, hF⟩, x, hx => by
    rw [hF] at hx
    rcases hx with rfl | hx | hx
    · exact ⟨_, _, _, hn.row⟩
    · exact hn.rs.isCells x hx
    · exact hn.ss.isCells x hx
  | h + 1, k, ⟨rv, sv, ks, hn, _, _, hF, hk, _⟩, x, hx => by
    rw [hF] at hx
    rcases hx with (rfl | hx | hx) | ⟨c, hc, hx⟩
    · exact ⟨_, _, _, hn.row⟩
    · exact hn.rs.isCells x hx
    · exact hn.ss.isCells x hx
    · exact TreeAt.isCells (hk c hc).1 x hx
theorem TabAt.isCells {w : World} {B lo h t : Nat} {k : Kid} (a : TabAt w B lo h t k) (x : Nat) (hx : tabF t k x) : ∃ cs ty f, w.heap[x]? = some (.cells cs ty f) := by
  rcases hx with rfl | hx
  · exact ⟨_, _, _, a.row⟩
  · exact a.tree.isCells x hx
theorem grown_frm {w w' : World} {row : Option Nat} (hg : w.grownBy w' row) : Frm (fun x => row = some x) w w' := (Frm.refl _ w).grown hg fun k hk => .inl hk
/-- A turn of what is no cells leaves a table. -/
theorem TabAt.grown {w w' : World} {row : Option Nat} {B lo h t : Nat} {k : Kid} (a : TabAt w B lo h t k) (hg : w.grownBy w' row) (hr : ∀ r, row = some r → ∃ o : Obj, w.heap[r]? = some o ∧ o.isCells = false) : TabAt w' B lo h t k :=
  a.frm (grown_frm hg) fun x hx e => by
    obtain ⟨o, ho, hc⟩ := hr x e
    obtain ⟨cs, ty, f, h1⟩ := a.isCells x hx
    rw [h1] at ho
    cases ho
    cases hc
/-- What changes a table's blocks alone leaves whatever is no cells. -/
theorem TabAt.others {w w' : World} {B lo h t : Nat} {k : Kid} (a : TabAt w B lo h t k) (hf : Frm (tabF t k) w w') : KeepsOthers w w' :=
  ⟨hf.size, fun x o ho hc => (hf.block x (lt_of_block ho) fun hx => by
    obtain ⟨cs, ty, f, h1⟩ := a.isCells x hx
    rw [h1] at ho
    cases ho
    cases hc).trans ho⟩
/-- Rows put one after another. -/
def putAll (a : List Row) (l : List Row) : List Row := l.foldl (fun a x => insL a x.1 x.2) a
theorem putAll_snoc (a l : List Row) (x : Row) : putAll a (l ++ [x]) = insL (putAll a l) x.1 x.2 := by simp [putAll]
theorem putAll_len : ∀ (l a : List Row), Sorted a → (putAll a l).length ≤ a.length + l.length
  | [], a, h => by simp [putAll]
  | x :: l, a, h => by
    have h1 := putAll_len l (insL a x.1 x.2) (insL_sorted h x.1 x.2)
    have h2 := (insL_len h x.1 x.2).2
    have : putAll a (x :: l) = putAll (insL a x.1 x.2) l := rfl
    rw [this, List.length_cons]
    omega
theorem insL_last {a : List Row} {x : Row} (h : ∀ y ∈ a, y.1 < x.1) : insL a x.1 x.2 = a ++ [x] := by
  unfold insL
  rw [filter_all fun y hy => by simpa using h y hy, filter_none fun y hy => by have := h y hy; simp; omega]
theorem putAll_sorted : ∀ (l a : List Row), Sorted (a ++ l) → putAll a l = a ++ l
  | [], a, h => by simp [putAll]
  | x :: l, a, h => by
    have h1 : ∀ y ∈ a, y.1 < x.1 := fun y hy => (List.pairwise_append.1 h).2.2 y hy x List.mem_cons_self
    have e : putAll a (x :: l) = putAll (insL a x.1 x.2) l := rfl
    rw [e, insL_last h1, putAll_sorted l (a ++ [x]) (by rw [List.append_assoc]; exact h), List.append_assoc]
    rfl
set_option maxRecDepth 100000 in
set_option maxHeartbeats 2000000 in
theorem mend_any {w : World} {B h t : Nat} {k : Kid} (a : TabAt w B 1 h t k) (hh : h ≤ 950000) (hB : B ≤ w.heap.size) :
    Calls Try.prog 37 #[.pointer (some ⟨t, 0, none⟩)] w fun e w' => (∃ v, e = .returned v) ∧ MendOk w w' B 1 t k := by
  by_cases hq : h + 1 ≤ 2 + halvesN k.L.length
  · exact (mend_quick (by omega) a hq).mono fun e w' ⟨he, hw⟩ => ⟨he, by subst hw; exact ⟨h, k, a, rfl, hq, fun x hx => .inl hx, Frm.refl _ _⟩⟩
  have hm := a.many
  have hv := halvesN_le k.L.length
  have H1 := Lib.hid (callsIn_wide (n := 3).2 (depth_any (by omega) a (by omega)))
  have H2 := Lib.hid (callsIn_wide (n := 3).2 (len_any a))
  have H3 := Lib.hid (callsIn_wide (n := 3).2 (halves_any k.L.length (by omega) w))
  have H4 := Lib.hid (callsIn_wide (n := 3).2 (new_any w B 4 hB))
  generalize halvesN k.L.length = r at *
  have HA := Lib.hid a
  clear a
  refine (callsIn_wide (n := 4)).1 ?_
  refine callsIn_of_wp_marks Try.func37 rfl trivial ?_ rfl
  simp only [Try.ntmps37, List.size_toArray, List.length_cons, List.length_nil, Nat.reduceAdd, Nat.reduceSub, Array.replicate_succ, Array.replicate_zero, List.push_toArray, List.append_toArray, List.nil_append, List.cons_append]
  gi_wp2
  refine ⟨trivial, ?_⟩
  gi_at_call 32
  refine H1.out.mono ?_
  rintro e w1 ⟨rfl, rfl⟩
  gi_wp2
  refine ⟨trivial, ?_⟩
  gi_at_call 21
  refine H2.out.mono ?_
  rintro e w1 ⟨rfl, rfl⟩
  gi_wp2
  refine ⟨trivial, ?_⟩
  gi_at_call 48
  refine H3.out.mono ?_
  rintro e w1 ⟨rfl, rfl⟩
  have hq2 : ¬ ((h + 1 : Nat) : Int) ≤ 2 + (r : Int) := by omega
  gi_wp2
  refine ⟨trivial, ?_⟩
  gi_at_call 10
  refine H4.out.mono ?_
  rintro e w2 ⟨u, ku, rfl, hau, hul, huF, hb2⟩
  have HAU := Lib.hid hau
  have HUF := Lib.hid (And.intro hul huF)
  have HB2 := Lib.hid hb2
  clear hau hul huF hb2 H1 H2 H3 H4
  gi_wp2
  have hszU : w1.heap.size ≤ w2.heap.size := HB2.out.size
  have hbW : Below w1.heap.size w1 (w2.alloc (.cells #[.pointer (some ⟨u, 0, none⟩)] 23)) := HB2.out.alloc hszU _
  have htab : TabAt (w2.alloc (.cells #[.pointer (some ⟨u, 0, none⟩)] 23)) B 1 h t k := HA.out.below hbW
  have hbox : (w2.alloc (.cells #[.pointer (some ⟨u, 0, none⟩)] 23)).heap[w2.heap.size]? = some (.cells #[.pointer (some ⟨u, 0, none⟩)] 23 (0, 0)) := heap_alloc_new _ _
  have hau2 : TabAt (w2.alloc (.cells #[.pointer (some ⟨u, 0, none⟩)] 23)) B 4 0 u ku := HAU.out.below ((Below.refl _ _).alloc (Nat.le_refl _) _)
  have hszW : (w2.alloc (.cells #[.pointer (some ⟨u, 0, none⟩)] 23)).heap.size = w2.heap.size + 1 := by simp
  have hkub : ¬ tabF u ku w2.heap.size := fun hx => by have := (HAU.out.lt _ hx).1; omega
  generalize World.alloc w2 _ = W0 at *
  refine wpIn_rangeAll 4 (t := t) (k := k) rfl rfl htab w1.heap.size (by omega) (fun x hx => (HA.out.lt x hx).1)
    (fun pre W => (∃ (hu : Nat) (kw : Kid), TabAt W B 4 hu u kw ∧ kw.L = putAll [] pre ∧ (∀ x, tabF u kw x → w1.heap.size ≤ x) ∧ ¬ tabF u kw w2.heap.size) ∧ W.heap[w2.heap.size]? = some (.cells #[.pointer (some ⟨u, 0, none⟩)] 23 (0, 0)) ∧ Below w1.heap.size w1 W)
    (fun _ _ _ => False) ?own (fun _ _ _ _ _ hs _ _ => hs) ⟨⟨0, ku, hau2, HUF.out.1, HUF.out.2, hkub⟩, hbox, hbW⟩
    (fun x => { tmps := #[.pointer (some ⟨t, 0, none⟩), undef, .pointer (some ⟨w2.heap.size, 0, none⟩), .int .i64 x.1, .int .i64 x.2, .pointer (some ⟨t, 0, none⟩), .int .i64 (↑h + 1), .pointer (some ⟨t, 0, none⟩), .int .i64 ↑k.L.length, .int .i64 ↑r, .int .i64 (2 + ↑r), .bool (decide ((h : Int) + 1 ≤ 2 + (r : Int))), .pointer (some ⟨u, 0, none⟩), .pointer (some ⟨t, 0, none⟩),
      .func (.func 18) #[.pointer (some ⟨t, 0, none⟩)] #[], .int .i64 x.1, .int .i64 x.2, undef, undef, undef, undef, undef, undef, undef, undef, undef, undef, undef], defers := [] }) ?assign ?body ?done ?stop
  case own =>
    rintro pre A A' row ⟨⟨hu, kw, ha, hl, hF, hno⟩, hb, hB⟩ hg hr
    refine ⟨⟨hu, kw, ha.grown hg fun r e => (hr r e).2, hl, hF, hno⟩, ?_, ?_⟩
    · refine ((grown_frm hg).block _ (lt_of_block hb) fun e => ?_).trans hb
      obtain ⟨o, ho, hc⟩ := (hr _ e).2
      rw [hb] at ho
      cases ho
      cases hc
    · exact hB.grown hg hB.size fun r e => by have := (hr r e).1; omega
  case assign =>
    intro l m x W K hK
    dsimp only [rowArgs]
    gi_wp2
    exact hK
  case body =>
    rintro l m pre x W ⟨⟨hu, kw, ha, hl, hF, hno⟩, hb, hBW⟩ hpfx hsz
    have hlen : pre.length < k.L.length := by
      have := hpfx.length_le
      rw [List.length_append, List.length_singleton] at this
      omega
    clear hpfx
    have hlw : kw.L.length ≤ pre.length := by
      rw [hl]
      have := putAll_len pre [] List.Pairwise.nil
      simpa using this
    have hbc : W.cell? ⟨w2.heap.size, 0, none⟩ = some (.pointer (some ⟨u, 0, none⟩)) := by rw [cell_of_row _ _ 0 _ _ _ hb]; rfl
    have HPU : Hid (∀ n', CallsIn Fence.wide n' Try.prog 14 #[.pointer (some ⟨u, 0, none⟩), .int .i64 x.1, .int .i64 x.2] W fun e w' => e = .returned (.tuple #[.int .i64 ((getL kw.L x.1).getD 0), .bool (getL kw.L x.1).isSome]) ∧ PutT W w' B 4 u kw (insL kw.L x.1 x.2)) :=
      Lib.hid fun n' => callsIn_wide.2 (putT4 ha (by omega) (by omega) x.1 x.2)
    have HW := Lib.hid (And.intro ha (And.intro hl (And.intro hF (And.intro hno (And.intro hb hBW)))))
    clear ha hl hF hno hb hBW
    gi_wp2
    refine ⟨trivial, ?_⟩
    refine ⟨fun h => (by cases h), ?_⟩
    gi_at_call 14
    refine (CallsIn.inRound l (HPU.out _)).mono ?_
    rintro e W3 ⟨rfl, hu', kw', ha', hl', _, hF', hf'⟩
    gi_wp2
    obtain ⟨ha, hl, hF, hno, hb, hBW⟩ := HW.out
    have hb3 := hf'.below (B := w1.heap.size) hBW.size hF
    refine ⟨ha.others hf', hb3, ⟨hu', kw', ha', by rw [hl', hl, putAll_snoc], fun y hy => ?_, fun hy => ?_⟩, (hf'.block _ (lt_of_block hb) hno).trans hb, hBW.trans hb3⟩
    · rcases hy with hy | hy
      · exact hF y (.inl hy)
      · rcases hF' y hy with h1 | h1
        · exact hF y (.inr h1)
        · exact Nat.le_trans hBW.size h1
    · rcases hy with hy | hy
      · exact hno (.inl hy)
      · rcases hF' _ hy with h1 | h1
        · exact hno (.inr h1)
        · omega
  case done =>
    rintro D W hD ⟨⟨hu, kw, ha, hl, hF, hno⟩, hb, hBW⟩ hK
    rw [putAll_sorted k.L [] (by simpa using HA.out.srt)] at hl
    have hbc : W.cell? ⟨w2.heap.size, 0, none⟩ = some (.pointer (some ⟨u, 0, none⟩)) := by rw [cell_of_row _ _ 0 _ _ _ hb]; rfl
    have hcu := ha.cell
    have htl : t < w1.heap.size := lt_of_block HA.out.row
    have hrt := (hBW.block t htl).trans HA.out.row
    have hct : W.cell? ⟨t, 0, none⟩ = some (.pointer (some ⟨k.p, 0, none⟩)) := by rw [cell_of_row _ _ 0 _ _ _ hrt]; rfl
    have hfz := free_row hrt 0
    have HW := Lib.hid (And.intro ha (And.intro hl (And.intro hF (And.intro hrt (And.intro hK hBW)))))
    clear ha hl hF hno hb hBW hrt hK
    gi_wp2
    refine ⟨by simp, .inl ⟨_, _, rfl, run_takeDeferred ((KeepsOthers.setCell W ⟨t, 0, none⟩ (.pointer (some ⟨kw.p, 0, none⟩))).same D _ HW.out.2.2.2.2.1 rfl), ?_⟩⟩
    refine ⟨_, results_none rfl _ _ _, ⟨_, rfl⟩, ?_⟩
    obtain ⟨ha, hl, hF, hrt, hK, hBW⟩ := HW.out
    have hf1 : Frm (tabF t k) w1 (W.setCell ⟨t, 0, none⟩ (.pointer (some ⟨kw.p, 0, none⟩))) := (Frm.of_below (F := tabF t k) hBW).setCell (p := ⟨t, 0, none⟩) (.inl (.inl rfl)) _
    have hf2 : Frm (tabF t k) w1 ((W.setCell ⟨t, 0, none⟩ (.pointer (some ⟨kw.p, 0, none⟩))).putObj D (.deferred none)) := hf1.grown (grownBy_putObj' _ D _) fun j e => by cases e; exact .inr (by have := hszW; omega)
    have hDt : t ≠ D := by have := hszW; omega
    have hrow : ((W.setCell ⟨t, 0, none⟩ (.pointer (some ⟨kw.p, 0, none⟩))).putObj D (.deferred none)).heap[t]? = some (.cells #[.pointer (some ⟨kw.p, 0, none⟩)] 61 (0, 0)) := by
      refine (World.putObj_heap_other hDt).trans ?_
      rw [heap_setCell_same _ _ _ _ _ _ hrt]; rfl
    have htn : ¬ kw.F t := fun hx => by have := hF t (.inr hx); omega
    have htree : TreeAt ((W.setCell ⟨t, 0, none⟩ (.pointer (some ⟨kw.p, 0, none⟩))).putObj D (.deferred none)) B 1 hu kw := (ha.tree.mono (by omega)).keep fun x hx => by
      refine (World.putObj_heap_other fun e => ?_).trans (Below.heap_setCell _ _ _ _ (fun e => htn (by have e : x = t := e; rw [← e]; exact hx)))
      obtain ⟨cs, ty, f, hc⟩ := ha.tree.isCells x hx
      rw [e] at hc
      rw [hK] at hc
      cases hc
    have hl2 : kw.L = k.L := by simpa using hl
    exact ⟨hu, kw, ⟨hrow, htree, htn, HA.out.bt, ha.e8, ha.pos, ha.srt, ha.many⟩, hl2, by rw [← hl2]; exact ha.flat, fun x hx => .inr (hF x (.inr hx)), hf2⟩
  case stop =>
    rintro D c pre W _ _ h _
    exact h.elim
/-- Put on any table. -/
theorem putT_any {B t : Nat} {w : World} {h : Nat} {k : Kid} (a : TabAt w B 1 h t k) (hh : h + 1 ≤ 2 + halvesN k.L.length) (hm : k.L.length < 900000) (hB : B ≤ w.heap.size) (key v : Int) :
    Calls Try.prog 14 #[.pointer (some ⟨t, 0, none⟩), .int .i64 key, .int .i64 v] w fun e w' => e = .returned (.tuple #[.int .i64 ((getL k.L key).getD 0), .bool (getL k.L key).isSome]) ∧ PutT w w' B 1 t k (insL k.L key v) :=
  putT_core (by omega) (fun {w h k} a hh hB => mend_any a hh hB) a hh hm hB key v
end Go.Proofs.Ytdgapagpmdfndaa
