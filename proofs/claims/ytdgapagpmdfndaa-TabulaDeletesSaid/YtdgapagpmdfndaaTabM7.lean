/- LAYER 13 (tabula): TabulaDeletes. -/
import Derived.Test.YtdgapagpmdfndaaTabM6
namespace Go.Proofs.Ytdgapagpmdfndaa
open Go.RowKit
set_option linter.unusedVariables false
def intCells (ks : List Int) : List Value := ks.map fun k => .int .i64 k
theorem infoInt : (Try.prog.info? 3).map (fun i => (i.zero, i.size, i.bytes)) = some (some (.int .i64 0), 1, 8) := by kernel_rfl
/-- One key more. -/
theorem push_int {w : World} {B : Nat} {v : Value} {ks : List Int} (ho : OwnS w B 3 1 v ks.length (intCells ks)) (hB : B ≤ w.heap.size) (hl : ks.length ≤ 1000000) (k : Int) :
    ∃ a c W', (appSem #[31, 31] 31 #[v, .slice (some ⟨w.heap.size, 0, none⟩) 1 1]).run Try.prog (w.alloc (.cells #[.int .i64 k] 3)) = .ok (.slice a (ks.length + 1) c) W' ∧
      OwnS W' B 3 1 (.slice a (ks.length + 1) c) (ks ++ [k]).length (intCells (ks ++ [k])) ∧ Frm (fun x => v.ownBlock = some x) w W' ∧ ∀ r, (Value.slice a (ks.length + 1) c).ownBlock = some r → v.ownBlock = some r ∨ w.heap.size ≤ r := by
  obtain ⟨i0, hk1, hk2, hk3, hk4⟩ := info_parts infoInt
  have hx : OwnS (w.alloc (.cells #[.int .i64 k] 3)) w.heap.size 3 1 (.slice (some ⟨w.heap.size, 0, none⟩) 1 1) 1 [.int .i64 k] :=
    ⟨rfl, .inr ⟨w.heap.size, 1, _, rfl, Nat.le_refl _, heap_alloc_new _ _, Nat.le_refl _, by decide, Nat.le_refl _, rfl⟩⟩
  obtain ⟨v', W', hr, ho', hg, hn⟩ := run_append_src (P := Try.prog) (w.alloc (.cells #[.int .i64 k] 3)) B 31 31 3 i0 (.int .i64 0) 1 8 Try.underlying31 hk1 hk2 hk3 hk4 rfl (by decide) v ks.length (intCells ks) (ho.alloc _) _ 1 _ hx (by intro u hu; simp at hu; rw [hu]; rfl) (by have : maxLen = 9223372036854775807 := rfl; omega) (by omega) (by simp; omega)
  obtain ⟨a, c, rfl⟩ := ho'.len
  rw [append_eq] at hr
  refine ⟨a, c, W', hr, ?_, ?_, fun r hh => ?_⟩
  · rw [List.length_append, show intCells (ks ++ [k]) = intCells ks ++ [.int .i64 k] by simp [intCells]]
    exact ho'
  · exact ((Frm.refl _ w).alloc _).grown hg fun r hh => .inl hh
  · rcases hn r hh with h | h
    · exact .inl h
    · right; simp at h; omega
/-- A table, the document's rows and a list of keys, behind calls that began at w0. -/
structure St3 (w0 : World) (t : Nat) (a l : List Row) (F : Nat → Prop) (lv : Value) (ms : List Int) (mv : Value) (w : World) : Prop where
  tab : TabL w w0.heap.size t a F
  doc : DocAt w (fun x => F x ∨ mv.ownBlock = some x) lv l
  own : OwnS w w0.heap.size 3 1 mv ms.length (intCells ms)
  dis : ∀ x, mv.ownBlock = some x → ¬ F x
  bel : Below w0.heap.size w0 w
theorem St3.step {w0 : World} {t : Nat} {a l : List Row} {F : Nat → Prop} {lv mv : Value} {ms : List Int} {w w' : World} (h : St3 w0 t a l F lv ms mv w) (hb : Below w.heap.size w w') : St3 w0 t a l F lv ms mv w' :=
  ⟨h.tab.below hb, h.doc.below hb, h.own.below hb, h.dis, h.bel.trans (hb.mono h.bel.size)⟩
theorem St3.put {w0 : World} {t : Nat} {a a' l : List Row} {F : Nat → Prop} {lv mv : Value} {ms : List Int} {w w' : World} (h : St3 w0 t a l F lv ms mv w) (hs : StepOk w w' w0.heap.size t F a') : ∃ F', St3 w0 t a' l F' lv ms mv w' := by
  have hbel := hs.below h.tab h.bel.size
  obtain ⟨F', h1, h2, h3⟩ := hs
  refine ⟨F', h1, h.doc.frm h3 (fun x _ hx => .inl hx) fun x hxl hx => ?_, h.own.frm h3 h.dis, fun x hx hy => ?_, h.bel.trans hbel⟩
  · rcases hx with hx | hx
    · rcases h2 x hx with hh | hh
      · exact .inl hh
      · omega
    · exact .inr hx
  · rcases h2 x hy with hh | hh
    · exact h.dis x hx hh
    · have := (h.own.block x hx).2.1; omega
theorem St3.push {w0 : World} {t : Nat} {a l : List Row} {F : Nat → Prop} {lv mv mv' : Value} {ms ms' : List Int} {w w' : World} (h : St3 w0 t a l F lv ms mv w) (hf : Frm (fun x => mv.ownBlock = some x) w w') (ho : OwnS w' w0.heap.size 3 1 mv' ms'.length (intCells ms')) (hn : ∀ r, mv'.ownBlock = some r → mv.ownBlock = some r ∨ w.heap.size ≤ r) : St3 w0 t a l F lv ms' mv' w' := by
  refine ⟨h.tab.frm hf fun x hx hy => h.dis x hy hx, h.doc.frm hf (fun x _ hx => .inr hx) fun x hxl hx => ?_, ho, fun x hx hy => ?_, h.bel.trans (hf.below h.bel.size fun x hx => (h.own.block x hx).1)⟩
  · rcases hx with hx | hx
    · exact .inl hx
    · rcases hn x hx with hh | hh
      · exact .inr hh
      · omega
  · rcases hn x hx with hh | hh
    · exact h.dis x hh hy
    · have := (h.tab.lt x hy).1; omega
/-- Rows a: the rows l, and keys ms with 1, which none of l has. -/
structure Inv (l : List Row) (ms : List Int) (a : List Row) : Prop where
  mem : ∀ x, x ∈ a ↔ x ∈ l ∨ (x.2 = 1 ∧ x.1 ∈ ms)
  nod : ms.Nodup
  new : ∀ k ∈ ms, ∀ x ∈ l, x.1 ≠ k
theorem Inv.zero (l : List Row) : Inv l [] l := ⟨fun x => by simp, List.nodup_nil, fun k hk => by cases hk⟩
theorem Inv.put {l a : List Row} {ms : List Int} (h : Inv l ms a) {k : Int} (hk : getL a k = none) : Inv l (ms ++ [k]) (insL a k 1) := by
  have hn := getL_none_iff.1 hk
  have hkl : ∀ x ∈ l, x.1 ≠ k := fun x hx => hn x ((h.mem x).2 (.inl hx))
  have hkm : k ∉ ms := fun hm => hn (k, 1) ((h.mem (k, 1)).2 (.inr ⟨rfl, hm⟩)) rfl
  refine ⟨fun x => ?_, ?_, fun y hy x hx => ?_⟩
  · rw [mem_insL, h.mem, List.mem_append, List.mem_singleton]
    obtain ⟨x1, x2⟩ := x
    constructor
    · rintro (e | ⟨h1 | ⟨h1, h2⟩, h3⟩)
      · obtain ⟨rfl, rfl⟩ := Prod.mk.inj e
        exact .inr ⟨rfl, .inr rfl⟩
      · exact .inl h1
      · exact .inr ⟨h1, .inl h2⟩
    · rintro (h1 | ⟨h1, h2 | h2⟩)
      · exact .inr ⟨.inl h1, hkl _ h1⟩
      · exact .inr ⟨.inr ⟨h1, h2⟩, fun e => hkm (by rw [← e]; exact h2)⟩
      · dsimp only at h1 h2
        rw [h1, h2]
        exact .inl rfl
  · refine List.nodup_append.2 ⟨h.nod, by simp, fun a ha b hb e => ?_⟩
    rw [List.mem_singleton] at hb
    rw [e, hb] at ha
    exact hkm ha
  · rcases List.mem_append.1 hy with hy | hy
    · exact h.new y hy x hx
    · rw [List.mem_singleton.1 hy]; exact hkl x hx
theorem Inv.del {l a : List Row} {ms : List Int} {k : Int} (h : Inv l (k :: ms) a) (hs : Sorted a) : getL a k = some 1 ∧ Inv l ms (delL a k) := by
  obtain ⟨hkm, hnod⟩ := List.nodup_cons.1 h.nod
  refine ⟨getL_mem hs ((h.mem (k, 1)).2 (.inr ⟨rfl, List.mem_cons_self⟩)), fun x => ?_, hnod, fun y hy x hx => h.new y (List.mem_cons_of_mem _ hy) x hx⟩
  rw [mem_delL, h.mem, List.mem_cons]
  constructor
  · rintro ⟨h1 | ⟨h1, h2 | h2⟩, h3⟩
    · exact .inl h1
    · exact absurd h2 h3
    · exact .inr ⟨h1, h2⟩
  · rintro (h1 | ⟨h1, h2⟩)
    · exact ⟨.inl h1, h.new k List.mem_cons_self x h1⟩
    · exact ⟨.inr ⟨h1, .inr h2⟩, fun e => hkm (by rw [← e]; exact h2)⟩
theorem Inv.done {l a : List Row} (h : Inv l [] a) (hs : Sorted a) (hl : Sorted l) : a = l := sorted_ext hs hl fun x => by rw [h.mem]; simp
theorem intCells_at (ks : List Int) (j : Nat) (h : j < ks.length) : (intCells ks)[j]? = some (.int .i64 (ks.getD j default)) := by simp [intCells, h]
theorem stepL_sorted {l : List Row} (h : Sorted l) (o : TOp) : Sorted (stepL l o) := by
  unfold stepL
  split
  · exact insL_sorted h _ _
  · split
    · exact delL_sorted h _
    · exact h
theorem playL_len : ∀ (os : List TOp) {l : List Row}, Sorted l → (playL l os).length ≤ l.length + os.length
  | [], l, h => Nat.le_refl _
  | o :: os, l, h => by
    have h1 := playL_len os (stepL_sorted h o)
    have h2 := stepL_len h o
    have : playL l (o :: os) = playL (stepL l o) os := rfl
    rw [this, List.length_cons]
    omega
/-- The state ahead of a round of the first loop, and of the second. -/
def Del1 (w : World) (t : Nat) (l : List Row) (lv : Value) (i q : Nat) (mv : Value) (wr : World) : Prop :=
  ∃ a F ms, q = ms.length ∧ a.length ≤ 1000 + i ∧ Inv l ms a ∧ St3 w t a l F lv ms mv wr
def Del2 (w : World) (t : Nat) (l : List Row) (lv : Value) (ms : List Int) (j : Nat) (mv : Value) (wr : World) : Prop :=
  ∃ a F, Inv l (ms.drop j) a ∧ St3 w t a l F lv ms mv wr
section
attribute [local go_sem ↓] append_eq
set_option maxRecDepth 100000 in
set_option maxHeartbeats 4000000 in
theorem tabDeletes_any (v0 : Value) (os : List TOp) (v1 : Value) (ks : List Int) (w : World) (h : ScriptAt w w.heap.size v0 os) (h1 : IntsAt w w.heap.size v1 ks) :
    Calls Try.prog 6 #[v0, v1] w fun e w' => e = .returned (.bool true) ∧ Below w.heap.size w w' := by
  have HNEW := Lib.hid (new_L w w.heap.size (Nat.le_refl _))
  obtain ⟨a, cap, rfl⟩ := h.len
  obtain ⟨a', cap', rfl, hk1⟩ := h1
  obtain ⟨n, hn⟩ : ∃ n, n = os.length := ⟨_, rfl⟩
  obtain ⟨m, hm⟩ : ∃ m, m = ks.length := ⟨_, rfl⟩
  rw [← hn] at h ⊢
  rw [← hm]
  have H := Lib.hid h
  have HK1 := Lib.hid hk1
  have HN := Lib.hid hn
  have HM := Lib.hid hm
  clear h hk1 hn hm
  by_cases hl : 1000 < n ∨ 500 < m
  · have key : (1000 < n) ∨ (n ≤ 1000 ∧ 500 < m) := by omega
    rcases key with hl | ⟨hl1, hl2⟩
    all_goals
      go_enter Try.func6, Try.ntmps6
      go_wp2_with fail
      refine HNEW.out.mono ?_
      rintro e w1 ⟨t, F, rfl, ht, _, hb1⟩
      have HB1 := Lib.hid hb1
      have HAL := Lib.hid (alive_any w1)
      clear ht hb1
      go_wp2_with fail
      refine HAL.out.mono ?_
      rintro e w2 ⟨rfl, hb2⟩
      have HB2 := Lib.hid (HB1.out.trans (hb2.mono HB1.out.size))
      clear hb2
      go_wp2_with fail
      go_ret
      exact ⟨rfl, HB2.out⟩
  · have hln : n ≤ 1000 := by omega
    have hlm : m ≤ 500 := by omega
    clear hl
    go_enter Try.func6, Try.ntmps6
    go_wp2_with fail
    refine HNEW.out.mono ?_
    rintro e w1 ⟨t, F, rfl, ht, _, hb1⟩
    have HB1 := Lib.hid hb1
    have HP := Lib.hid (plays_L ht (DocAt.nil w1 F) (H.out.below hb1) hb1.size (by simp; have := HN.out; omega))
    clear ht hb1 HNEW
    go_wp2_with fail
    refine HP.out.mono ?_
    rintro e w2 ⟨lv, F2, rfl, ht2, hd2, hb2, _, _⟩
    have hpl : (playL [] os).length ≤ 1000 := by
      have := playL_len os (l := []) List.Pairwise.nil
      have := HN.out
      simp only [List.length_nil, Nat.zero_add] at *
      omega
    generalize playL [] os = l at *
    obtain ⟨la, lc, rfl, _⟩ := hd2.val
    obtain ⟨ll, hll⟩ : ∃ ll, ll = l.length := ⟨_, rfl⟩
    have HSR := Lib.hid ht2.srt
    have hdoc : DocAt w2 (fun x => F2 x ∨ (Value.slice none 0 0).ownBlock = some x) (.slice la l.length lc) l := hd2.frm (Frm.refl (fun _ => False) _) (fun _ _ hx => hx.elim) fun x _ hx => by
      rcases hx with hx | hx
      · exact hx
      · cases hx
    rw [← hll] at hdoc
    have HO : Hid (Del1 w t l (.slice la ll lc) 0 0 (.slice none 0 0) w2) := Lib.hid ⟨l, F2, [], rfl, hpl, Inv.zero l, ⟨ht2, hdoc, OwnS.nil _ _ _ _, (fun x hx => (by cases hx)), HB1.out.trans hb2⟩⟩
    rw [← hll]
    clear ht2 hd2 hb2 HP hll hpl hdoc
    go_wp2_with fail
    go_loopw [8, 43] (fun mvv iv wr => ∃ (i : Nat) (xa : Option Addr) (q xc : Nat), i ≤ m ∧ q ≤ i ∧ mvv = .slice xa q xc ∧ iv = .int .i64 (i : Int) ∧ Hid (Del1 w t l (.slice la ll lc) i q (.slice xa q xc) wr)) (fun _ iv _ => m - (intOf iv).toNat)
    case atStart => exact ⟨0, none, 0, 0, Nat.zero_le _, Nat.zero_le _, rfl, rfl, HO⟩
    case round =>
      obtain ⟨i, xa, q, xc, hi, hqi, rfl, rfl, HC⟩ := hrel
      by_cases him : i < m
      · obtain ⟨b, off, hab, hblt, hcx⟩ := HK1.out (by rw [← HM.out]; omega)
        subst hab
        obtain ⟨A, F1, ms, hq, hAl, hinv, hst⟩ := HC.out
        have ck := (hst.bel.cell (p := ⟨b, off + i, none⟩) (by exact hblt)).trans (hcx i (by rw [← HM.out]; exact him))
        generalize ks.getD i default = k at *
        have hget := get_L hst.tab k
        obtain ⟨x, hx⟩ : ∃ x, x = getL A k := ⟨_, rfl⟩
        rw [← hx] at hget
        have HS := Lib.hid (And.intro hst (And.intro hinv (And.intro hq hx)))
        cases x with
        | some v =>
          have HGET := Lib.hid hget
          clear hget hx hcx hblt hst hinv hq HC
          go_wp2_with fail
          refine HGET.out.mono ?_
          rintro e w3 ⟨rfl, hb3⟩
          have HC3 : Hid (Del1 w t l (.slice la ll lc) (i + 1) q (.slice xa q xc) w3) := Lib.hid ⟨A, F1, ms, HS.out.2.2.1, by omega, HS.out.2.1, HS.out.1.step hb3⟩
          clear hb3
          go_wp2_with fail
          go_roundw
          case rel => exact ⟨i + 1, xa, q, xc, by omega, by omega, rfl, by go_num, HC3⟩
          case measure => simp [intOf]; omega
        | none =>
          have HGET := Lib.hid hget
          clear hget hx hcx hblt hst hinv hq HC
          go_wp2_with fail
          refine HGET.out.mono ?_
          rintro e w3 ⟨rfl, hb3⟩
          have HS3 := Lib.hid (HS.out.1.step hb3)
          have HP3 := Lib.hid (put_L HS3.out.tab (by omega) HS3.out.bel.size k 1)
          clear hb3
          go_wp2_with fail
          refine HP3.out.mono ?_
          rintro e w4 ⟨rfl, hs4⟩
          obtain ⟨F4, hst4⟩ := HS3.out.put hs4
          obtain ⟨pa, pc, w5, hr5, ho5, hf5, hn5⟩ := push_int hst4.own hst4.bel.size (by rw [← HS.out.2.2.1]; omega) k
          rw [← HS.out.2.2.1] at hr5 ho5 hn5
          have hl5 : (insL A k 1).length ≤ 1000 + (i + 1) := by have := (insL_len HS3.out.tab.srt k 1).2; omega
          have HC5 : Hid (Del1 w t l (.slice la ll lc) (i + 1) (q + 1) (.slice pa (q + 1) pc) w5) := Lib.hid ⟨insL A k 1, F4, ms ++ [k], by rw [List.length_append, ← HS.out.2.2.1]; rfl, hl5, HS.out.2.1.put HS.out.2.2.2.symm, hst4.push hf5 ho5 hn5⟩
          clear hs4 hst4 ho5 hf5 hn5 ck hl5
          go_wp2_with fail
          go_roundw
          case rel => exact ⟨i + 1, pa, q + 1, pc, by omega, by omega, by first | rfl | simp, by go_num, HC5⟩
          case measure => simp [intOf]; omega
      · obtain rfl : i = m := by omega
        obtain ⟨A, F1, ms, hq, hAl, hinv, hst⟩ := HC.out
        have HS : Hid (Del2 w t l (.slice la ll lc) ms 0 (.slice xa q xc) wr) := Lib.hid ⟨A, F1, hinv, hst⟩
        have HQ := Lib.hid hq
        obtain ⟨wo, rfl⟩ : ∃ wo : World, wo = wr := ⟨_, rfl⟩
        clear hq hAl hinv hst HC HO
        go_wp2_with fail
        go_loopw [65] (fun iv wr => ∃ j : Nat, j ≤ q ∧ iv = .int .i64 (j : Int) ∧ Hid (Del2 w t l (.slice la ll lc) ms j (.slice xa q xc) wr)) (fun iv _ => q - (intOf iv).toNat)
        case atStart => exact ⟨0, Nat.zero_le _, rfl, HS⟩
        case round =>
          obtain ⟨j, hj, rfl, HC⟩ := hrel
          by_cases hjq : j < q
          · obtain ⟨A2, F2, hinv, hst⟩ := HC.out
            have hjm : j < ms.length := by rw [← HQ.out]; exact hjq
            have hown := hst.own
            rw [← HQ.out] at hown
            obtain ⟨g, cp, hv, _, hg, _, _⟩ := hown.shape (by omega)
            cases hv
            have ck := hown.cellAt j (by omega)
            rw [intCells_at ms j hjm] at ck
            rw [drop_getD ms j hjm] at hinv
            generalize ms.getD j default = k at *
            obtain ⟨hgk, hinv2⟩ := hinv.del hst.tab.srt
            have hdl := del_L hst.tab hst.bel.size k
            rw [hgk] at hdl
            have HDL := Lib.hid hdl
            have HS2 := Lib.hid (And.intro hst hinv2)
            clear hdl hgk hinv hinv2 hown hst hg HC
            go_wp2_with fail
            refine HDL.out.mono ?_
            rintro e w3 ⟨rfl, hs3⟩
            obtain ⟨F3, hst3⟩ := HS2.out.1.put hs3
            have HC3 : Hid (Del2 w t l (.slice la ll lc) ms (j + 1) (.slice (some ⟨g, 0, none⟩) q xc) w3) := Lib.hid ⟨delL A2 k, F3, HS2.out.2, hst3⟩
            clear hs3 hst3 ck
            go_wp2_with fail
            go_roundw
            case rel => exact ⟨j + 1, by omega, by go_num, HC3⟩
            case measure => simp [intOf]; omega
          · obtain rfl : j = q := by omega
            obtain ⟨A2, F2, hinv, hst⟩ := HC.out
            rw [HQ.out, List.drop_length] at hinv
            obtain rfl : A2 = l := hinv.done hst.tab.srt HSR.out
            have HS2 := Lib.hid hst
            have HAL := Lib.hid (alive_any wr)
            clear hst hinv HC
            go_wp2_with fail
            refine HAL.out.mono ?_
            rintro e w3 ⟨rfl, hb3⟩
            have HS3 := Lib.hid (HS2.out.step hb3)
            clear hb3
            have HST := Lib.hid (stands_L HS3.out.tab (HS3.out.doc.frm (Frm.refl (fun _ => False) _) (fun _ _ hx => hx.elim) fun x _ hx => .inl hx))
            go_wp2_with fail
            refine HST.out.mono ?_
            rintro e w4 ⟨rfl, hb4⟩
            have HS4 := Lib.hid (HS3.out.step hb4)
            clear hb4
            go_wp2_with fail
            go_ret
            exact ⟨rfl, HS4.out.bel⟩
end
end Go.Proofs.Ytdgapagpmdfndaa
