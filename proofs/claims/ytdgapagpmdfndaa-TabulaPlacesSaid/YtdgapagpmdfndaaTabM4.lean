/- LAYER 13 (tabula): TabulaPlaces. -/
import Derived.Test.YtdgapagpmdfndaaTabM2
import Derived.Test.YtdgapagpmdfndaaTabZc
import Derived.Stop.RegionWithIn
namespace Go.Proofs.Ytdgapagpmdfndaa
open Go.RowKit Go.Shelf
set_option linter.unusedVariables false
attribute [local go_sem] Oper.semAt_some
/-- What the last region leaves. -/
def TailQ (D S1 : Nat) (W : World) : Exit → Act → World → Prop
  | .normal, a', w' => a'.defers = [{ target := .collected D, args := #[] }] ∧ a'.tmps.getD 4 undef = .pointer (some ⟨S1, 0, none⟩) ∧ ∃ W3, w' = W3.setCell ⟨S1, 0, none⟩ (.bool true) ∧ Below W.heap.size W W3 ∧ W3.heap[S1]? = some (.cells #[.bool false] 4 (0, 0))
  | _, _, _ => False
theorem rank_at {l : List Row} {x : Row} {i : Nat} (hs : Sorted l) (hi : i < l.length) (hx : l.getD i default = x) : rankL l x.1 = i := by
  obtain ⟨h1, h2, h3⟩ := exists_cut' hs x.1
  rcases Nat.lt_trichotomy (rankL l x.1) i with h | h | h
  · have a := h3 _ (Nat.le_refl _) (by omega)
    have b := sorted_get hs h hi
    rw [hx] at b
    omega
  · exact h
  · have a := h2 i h
    rw [hx] at a
    omega
set_option maxRecDepth 100000 in
set_option maxHeartbeats 4000000 in
theorem tabPlaces_any (v : Value) (os : List TOp) (stop : Int) (w : World) (h : ScriptAt w w.heap.size v os) :
    Calls Try.prog 5 #[v, .int .i64 stop] w fun e w' => e = .returned (.bool true) ∧ Below w.heap.size w w' := by
  obtain ⟨a, cap, rfl⟩ := h.len
  obtain ⟨n, hn⟩ : ∃ n, n = os.length := ⟨_, rfl⟩
  rw [← hn] at h ⊢
  have H := Lib.hid h
  have HN := Lib.hid hn
  have hb0 : Below w.heap.size w ((w.alloc (.cells #[.int .i64 stop] 3)).alloc (.cells #[.bool false] 4)) := ((Below.refl _ w).alloc (Nat.le_refl _) _).alloc (by simp) _
  have r0 : ((w.alloc (.cells #[.int .i64 stop] 3)).alloc (.cells #[.bool false] 4)).heap[w.heap.size]? = some (.cells #[.int .i64 stop] 3 (0, 0)) := by
    rw [Below.heap_alloc _ _ _ (by simp)]; exact heap_alloc_new _ _
  have r1 : ((w.alloc (.cells #[.int .i64 stop] 3)).alloc (.cells #[.bool false] 4)).heap[w.heap.size + 1]? = some (.cells #[.bool false] 4 (0, 0)) := by
    have := heap_alloc_new (w.alloc (.cells #[.int .i64 stop] 3)) (.cells #[.bool false] 4)
    simpa using this
  have HNEW := Lib.hid (new_L ((w.alloc (.cells #[.int .i64 stop] 3)).alloc (.cells #[.bool false] 4)) w.heap.size hb0.size)
  have H0 := Lib.hid (And.intro r0 (And.intro r1 hb0))
  clear h hn r0 r1 hb0
  by_cases hl : 1500 < n
  · go_enter Try.func5, Try.ntmps5
    go_wp2_with fail
    refine HNEW.out.mono ?_
    rintro e w1 ⟨t, F, rfl, ht, _, hb1⟩
    generalize World.alloc (World.alloc w _) _ = w0 at *
    have q1 := (hb1.block _ (lt_of_block H0.out.2.1)).trans H0.out.2.1
    have hb1' := H0.out.2.2.trans (hb1.mono H0.out.2.2.size)
    have hbx : Below w1.heap.size w1 (w1.alloc (.cells #[.pointer (some ⟨t, 0, none⟩)] 23)) := (Below.refl _ _).alloc (Nat.le_refl _) _
    have HB1 := Lib.hid (And.intro ((hbx.block _ (lt_of_block q1)).trans q1) (hb1'.trans (hbx.mono hb1'.size)))
    have HAL := Lib.hid (alive_any (w1.alloc (.cells #[.pointer (some ⟨t, 0, none⟩)] 23)))
    clear ht hb1 hb1' hbx q1
    go_wp2_with fail
    refine HAL.out.mono ?_
    rintro e w2 ⟨rfl, hb2⟩
    have q2 := (hb2.block _ (lt_of_block HB1.out.1)).trans HB1.out.1
    have hbw := HB1.out.2.trans (hb2.mono HB1.out.2.size)
    have hfz := free_row q2 0
    have k3 : w2.cell? ⟨w.heap.size + 1, 0, none⟩ = some (.bool false) := by rw [cell_of_row _ _ 0 _ _ _ q2]; rfl
    have HB2 := Lib.hid (And.intro q2 hbw)
    clear hb2 q2 hbw
    go_wp2_with fail
    have hrow : (w2.setCell ⟨w.heap.size + 1, 0, none⟩ (.bool true)).heap[w.heap.size + 1]? = some (.cells #[.bool true] 4 (0, 0)) := by
      rw [heap_setCell_same _ _ _ _ _ _ HB2.out.1]; rfl
    refine bodyPost_ret (results_bool (b := true) rfl (by rfl) (by rw [cell_of_row _ _ 0 _ _ _ hrow]; rfl)) rfl ⟨rfl, ?_⟩
    exact HB2.out.2.setCell (by simp) _
  · refine (callsIn_wide (n := 4)).1 ?_
    refine callsIn_of_wp_marks Try.func5 rfl trivial ?_ rfl
    simp only [Try.ntmps5, List.size_toArray, List.length_cons, List.length_nil, Nat.reduceAdd, Nat.reduceSub, Array.replicate_succ, Array.replicate_zero, List.push_toArray, List.append_toArray, List.nil_append, List.cons_append]
    refine wpIn_wide.2 ?_
    go_wp2_with fail
    refine HNEW.out.mono ?_
    rintro e w1 ⟨t, F, rfl, ht, hF1, hb1⟩
    have hszw : (((w.alloc (.cells #[.int .i64 stop] 3)).alloc (.cells #[.bool false] 4)).heap.size) = w.heap.size + 2 := by simp
    generalize World.alloc (World.alloc w _) _ = w0 at *
    have hbw0 := H0.out.2.2
    have hb1' := hbw0.trans (hb1.mono (Nat.le_trans hbw0.size (Nat.le_refl _)))
    have HB1 := Lib.hid (And.intro hb1 hb1')
    have hbx : Below w1.heap.size w1 (w1.alloc (.cells #[.pointer (some ⟨t, 0, none⟩)] 23)) := (Below.refl _ _).alloc (Nat.le_refl _) _
    have hbp : (w1.alloc (.cells #[.pointer (some ⟨t, 0, none⟩)] 23)).heap[w1.heap.size]? = some (.cells #[.pointer (some ⟨t, 0, none⟩)] 23 (0, 0)) := heap_alloc_new _ _
    have hFlt := fun x hx => (ht.lt x hx).1
    have HP := Lib.hid (plays_L (ht.below hbx) (DocAt.nil _ F) (H.out.below (hb1'.trans (hbx.mono hb1'.size))) (Nat.le_trans hb1'.size hbx.size) (by simp; have := HN.out; omega))
    have HX := Lib.hid (And.intro hbx (And.intro hbp (And.intro hFlt (And.intro hszw hF1))))
    clear ht hb1 hb1' hbx hbp hFlt hbw0 HNEW hszw hF1
    go_wp2_with fail
    refine HP.out.mono ?_
    rintro e w2 ⟨lv, F2, rfl, ht2, _, hb2, hF2, hf2⟩
    obtain ⟨hbx, hbp, hFlt, hszw, hF1⟩ := HX.out
    obtain ⟨hr0, hr1, hbw0⟩ := H0.out
    obtain ⟨hb1, hb1'⟩ := HB1.out
    have hbw : Below w.heap.size w w2 := (hb1'.trans (hbx.mono hb1'.size)).trans hb2
    have hs1 := hb1.size
    have hs2 := hbx.size
    have q0 : w2.heap[w.heap.size]? = some (.cells #[.int .i64 stop] 3 (0, 0)) :=
      (hf2.block _ (by omega) fun hx => by have := hF1 _ hx; omega).trans ((hbx.block _ (by omega)).trans ((hb1.block _ (by omega)).trans hr0))
    have q1 : w2.heap[w.heap.size + 1]? = some (.cells #[.bool false] 4 (0, 0)) :=
      (hf2.block _ (by omega) fun hx => by have := hF1 _ hx; omega).trans ((hbx.block _ (by omega)).trans ((hb1.block _ (by omega)).trans hr1))
    have qp : w2.heap[w1.heap.size]? = some (.cells #[.pointer (some ⟨t, 0, none⟩)] 23 (0, 0)) :=
      (hf2.block _ (lt_of_block hbp) fun hx => by have := hFlt _ hx; omega).trans hbp
    have ptr : w2.cell? ⟨w1.heap.size, 0, none⟩ = some (.pointer (some ⟨t, 0, none⟩)) := by rw [cell_of_row _ _ 0 _ _ _ qp]; rfl
    have hlq := lt_of_block qp
    have HQ := Lib.hid (And.intro q0 (And.intro q1 (And.intro qp (And.intro hbw ht2))))
    generalize playL [] os = l at *
    clear hbx hbp hFlt hszw hF1 hr0 hr1 hbw0 hb1 hb1' hb2 hF2 hf2 q0 q1 qp hbw ht2 hs1 hs2 HX H0 HB1 HP
    go_wp2_with fail
    have hnew : (w2.alloc (.cells #[.int .i64 0] 3)).heap[w2.heap.size]? = some (.cells #[.int .i64 0] 3 (0, 0)) := heap_alloc_new _ _
    have hbn : Below w2.heap.size w2 (w2.alloc (.cells #[.int .i64 0] 3)) := (Below.refl _ _).alloc (Nat.le_refl _) _
    have htab := HQ.out.2.2.2.2.below hbn
    have hmin := fun x hx => (HQ.out.2.2.2.2.lt x hx).1
    have hszW : (w2.alloc (.cells #[.int .i64 0] 3)).heap.size = w2.heap.size + 1 := by simp
    generalize World.alloc w2 _ = W0 at *
    obtain ⟨d, k, tab, hkl, _, hkF⟩ := htab
    rw [hkF] at hmin
    have HK := Lib.hid hkl
    have HTS := Lib.hid HQ.out.2.2.2.2.srt
    clear hkl hkF
    refine (wpIn_wide (n := 4)).1 ?_
    refine wpIn_rangeAll 4 (t := t) (k := k) rfl rfl tab w2.heap.size (by omega) hmin
      (fun pre W => W.heap[w2.heap.size]? = some (.cells #[.int .i64 (pre.length : Int)] 3 (0, 0)) ∧ Below w2.heap.size w2 W)
      (fun c pre W => c = .exit 0 ∧ W.heap[w2.heap.size]? = some (.cells #[.int .i64 stop] 3 (0, 0)) ∧ Below w2.heap.size w2 W) ?own ?ownx ⟨hnew, hbn⟩
      (fun x => { tmps := #[.slice a n cap, .int .i64 stop, undef, .pointer (some ⟨w.heap.size, 0, none⟩), .pointer (some ⟨w.heap.size + 1, 0, none⟩), .pointer (some ⟨w1.heap.size, 0, none⟩), .pointer (some ⟨w2.heap.size, 0, none⟩), .int .i64 x.1, .int .i64 x.2, undef, undef, undef,
        .pointer (some ⟨t, 0, none⟩), .pointer (some ⟨t, 0, none⟩), .bool false, .bool false, .slice a n cap, .int .i64 n, .bool (decide ((1500 : Int) < (n : Int))), .bool (decide ((1500 : Int) < (n : Int))), undef, undef, undef, undef, undef,
        .pointer (some ⟨t, 0, none⟩), .slice a n cap, .tuple #[lv, .bool true], .pointer (some ⟨t, 0, none⟩), .func (.func 18) #[.pointer (some ⟨t, 0, none⟩)] #[], .int .i64 x.1, .int .i64 x.2, undef, undef, undef, undef, undef, undef, undef, undef, undef, undef, undef, undef, undef, undef, undef, undef, undef, undef, undef, undef, undef, undef, undef, undef, undef, undef, undef, undef, undef, undef, undef, undef, undef, undef, undef, undef, undef, undef, undef, undef, undef, undef, undef], defers := [] }) ?assign ?body ?done ?stop
    case own =>
      rintro pre A A' row ⟨h0, hB⟩ hg hr
      have hk : ∀ (x : Nat) (c : Obj), c.isCells = true → A.heap[x]? = some c → A'.heap[x]? = some c := fun x c hc hx => ((grown_frm hg).block _ (lt_of_block hx) fun e => by
        obtain ⟨o, ho, hc2⟩ := (hr _ e).2
        rw [hx] at ho
        cases ho
        rw [hc] at hc2
        cases hc2).trans hx
      exact ⟨hk _ _ rfl h0, hB.grown hg hB.size fun r e => by have := (hr r e).1; omega⟩
    case ownx =>
      rintro c pre A A' row ⟨hc, h0, hB⟩ hg hr
      have hk : ∀ (x : Nat) (c : Obj), c.isCells = true → A.heap[x]? = some c → A'.heap[x]? = some c := fun x c hc hx => ((grown_frm hg).block _ (lt_of_block hx) fun e => by
        obtain ⟨o, ho, hc2⟩ := (hr _ e).2
        rw [hx] at ho
        cases ho
        rw [hc] at hc2
        cases hc2).trans hx
      exact ⟨hc, hk _ _ rfl h0, hB.grown hg hB.size fun r e => by have := (hr r e).1; omega⟩
    case assign =>
      intro l m x W K hK
      dsimp only [rowArgs]
      gi_wp2
      exact hK
    case body =>
      rintro l' m pre x W ⟨h0, hBW⟩ hpfx hsz2
      rw [HK.out] at hpfx
      obtain ⟨hlen, hx⟩ := pre_at hpfx
      have htW := HQ.out.2.2.2.2.below hBW
      have hml := htW.many
      have b0 : W.heap[w.heap.size]? = some (.cells #[.int .i64 stop] 3 (0, 0)) := (hBW.block _ (lt_of_block HQ.out.1)).trans HQ.out.1
      have b2 := (hBW.block _ (lt_of_block HQ.out.2.2.1)).trans HQ.out.2.2.1
      have k0 : W.cell? ⟨w.heap.size, 0, none⟩ = some (.int .i64 stop) := by rw [cell_of_row _ _ 0 _ _ _ b0]; rfl
      have k1 : W.cell? ⟨w1.heap.size, 0, none⟩ = some (.pointer (some ⟨t, 0, none⟩)) := by rw [cell_of_row _ _ 0 _ _ _ b2]; rfl
      have k2 : W.cell? ⟨w2.heap.size, 0, none⟩ = some (.int .i64 (pre.length : Int)) := by rw [cell_of_row _ _ 0 _ _ _ h0]; rfl
      obtain ⟨i, hi⟩ : ∃ i, i = pre.length := ⟨_, rfl⟩
      have hat : atV l (i : Int) = (x.1, x.2, true) := by rw [atV_in (by omega), hi, hx]
      have hrk : rankL l x.1 = i := rank_at HTS.out (by omega) (by rw [hi, hx])
      rw [← hi] at k2 hlen
      have hil : i ≤ 900000 := by omega
      have HW := Lib.hid (And.intro h0 (And.intro hBW (And.intro htW (And.intro hat (And.intro hrk hi)))))
      clear h0 hBW htW hx hpfx b0 b2 hat hrk hi hml
      by_cases hst : (i : Int) = stop
      · gi_wp2
        exact ⟨KeepsOthers.refl W, rfl, by rw [← hst, HW.out.2.2.2.2.2]; exact HW.out.1, HW.out.2.1⟩
      · have hat2 := at_L HW.out.2.2.1 (i : Int)
        rw [HW.out.2.2.2.1] at hat2
        unfold atR at hat2
        have HAT : Hid (∀ n', CallsIn Fence.wide n' Try.prog 19 #[.pointer (some ⟨t, 0, none⟩), .int .i64 (i : Int)] W _) := Lib.hid fun n' => callsIn_wide.2 hat2
        clear hat2
        gi_wp2
        refine ⟨trivial, ?_⟩
        refine ⟨fun h => (by cases h), ?_⟩
        gi_at_call 19
        refine (CallsIn.inRound l' (HAT.out _)).mono ?_
        rintro e W2 ⟨rfl, hb2⟩
        have hlq2 := lt_of_block HW.out.1
        have hlS := lt_of_block HQ.out.1
        have hlP := lt_of_block HQ.out.2.2.1
        have hs1 := HW.out.2.1.size
        have k0' := (hb2.cell (p := ⟨w.heap.size, 0, none⟩) (by show w.heap.size < W.heap.size; omega)).trans k0
        have k1' := (hb2.cell (p := ⟨w1.heap.size, 0, none⟩) (by show w1.heap.size < W.heap.size; omega)).trans k1
        have k2' := (hb2.cell (p := ⟨w2.heap.size, 0, none⟩) (by exact hlq2)).trans k2
        have hbd : Below W.heap.size W W2.drew := hb2.drew
        have hrk2 := rank_L (HW.out.2.2.1.below hbd) x.1
        rw [HW.out.2.2.2.2.1] at hrk2
        have HRK : Hid (∀ n', CallsIn Fence.wide n' Try.prog 20 #[.pointer (some ⟨t, 0, none⟩), .int .i64 x.1] W2.drew _) := Lib.hid fun n' => callsIn_wide.2 hrk2
        have hl2 : w2.heap.size < W2.drew.heap.size := Nat.lt_of_lt_of_le hlq2 hbd.size
        have HB2 := Lib.hid (And.intro hb2 hbd)
        clear hb2 HAT hrk2 hbd
        gi_wp2
        gi_region_with ((refine ⟨trivial, ?_⟩); (refine ⟨fun h => (by cases h), ?_⟩); gi_at_call 20; refine (CallsIn.inRound l' (HRK.out _)).mono ?_; (rintro e W3 ⟨rfl, hb3⟩); have k3 := (hb3.cell (p := ⟨w2.heap.size, 0, none⟩) (by exact hl2)).trans k2'; have HB3 := Lib.hid hb3; clear hb3)
        all_goals
          have hr3 : W3.heap[w2.heap.size]? = some (.cells #[.int .i64 (i : Int)] 3 (0, 0)) := (HB3.out.block _ hl2).trans ((HB2.out.2.block _ hlq2).trans (by rw [HW.out.2.2.2.2.2]; exact HW.out.1))
          have hfz3 := free_row hr3 0
          have HR3 := Lib.hid hr3
          clear hr3
          gi_wp2
          have hb4 : Below W.heap.size W W3 := HB2.out.2.trans (HB3.out.mono HB2.out.2.size)
          have hb5 : Below w2.heap.size W (W3.setCell ⟨w2.heap.size, 0, none⟩ (.int .i64 ((i : Int) + 1))) := (hb4.mono hs1).setCell (Nat.le_refl _) _
          refine ⟨KeepsOthers.trans ⟨hb4.size, fun x o ho _ => (hb4.block x (lt_of_block ho)).trans ho⟩ (KeepsOthers.setCell W3 _ _), hb5, ?_, HW.out.2.1.trans hb5⟩
          rw [heap_setCell_same _ _ _ _ _ _ HR3.out]
          simp [HW.out.2.2.2.2.2]
    case done =>
      rintro D W hD ⟨h0, hBW⟩ hK
      rw [HK.out] at h0
      have b0 : W.heap[w.heap.size]? = some (.cells #[.int .i64 stop] 3 (0, 0)) := (hBW.block _ (lt_of_block HQ.out.1)).trans HQ.out.1
      have b1 := (hBW.block _ (lt_of_block HQ.out.2.1)).trans HQ.out.2.1
      have b2 := (hBW.block _ (lt_of_block HQ.out.2.2.1)).trans HQ.out.2.2.1
      have htW := HQ.out.2.2.2.2.below hBW
      have hwD : w.heap.size ≤ D := by have := HQ.out.2.2.2.1.size; omega
      have hBW : Below w.heap.size w W := HQ.out.2.2.2.1.trans (hBW.mono HQ.out.2.2.2.1.size)
      obtain ⟨len, hle⟩ : ∃ len, len = l.length := ⟨_, rfl⟩
      have HLL := Lib.hid hle
      rw [← hle] at h0
      clear hle
      have k0 : W.cell? ⟨w.heap.size, 0, none⟩ = some (.int .i64 stop) := by rw [cell_of_row _ _ 0 _ _ _ b0]; rfl
      have k1 : W.cell? ⟨w1.heap.size, 0, none⟩ = some (.pointer (some ⟨t, 0, none⟩)) := by rw [cell_of_row _ _ 0 _ _ _ b2]; rfl
      have k2 : W.cell? ⟨w2.heap.size, 0, none⟩ = some (.int .i64 (len : Int)) := by rw [cell_of_row _ _ 0 _ _ _ h0]; rfl
      have hbd : Below W.heap.size W W.drew := (Below.refl _ W).drew
      have HAL := Lib.hid (alive_any W.drew)
      have HLEN : Hid (∀ W3, Below W.drew.heap.size W.drew W3 → Calls Try.prog 21 #[.pointer (some ⟨t, 0, none⟩)] W3 fun e w' => e = .returned (.int .i64 (len : Int)) ∧ w' = W3) := Lib.hid fun W3 hb => by
        have := len_L ((htW.below hbd).below hb)
        rw [← HLL.out] at this
        exact this
      have l0 : w.heap.size < W.drew.heap.size := Nat.lt_of_lt_of_le (lt_of_block b0) hbd.size
      have l1 : w1.heap.size < W.drew.heap.size := Nat.lt_of_lt_of_le (lt_of_block b2) hbd.size
      have l2 : w2.heap.size < W.drew.heap.size := Nat.lt_of_lt_of_le (lt_of_block h0) hbd.size
      have HW := Lib.hid (And.intro b1 (And.intro hbd (And.intro hBW hK)))
      clear h0 hBW hK b0 b1 b2 hbd htW
      go_wp2_with fail
      refine Code.wp_mono (Q := TailQ D (w.heap.size + 1) W) (fun e a' w' hh => ?_) ?_
      · rcases a' with ⟨tmps', defers'⟩
        cases e <;> first | exact hh.elim | skip
        obtain ⟨hdef, ht4, W3, rfl, hb4, hr3⟩ := hh
        dsimp only at hdef ht4
        subst hdef
        have HR3 := Lib.hid (And.intro ht4 (And.intro hb4 hr3))
        clear ht4 hb4 hr3
        go_wp2_with fail
        obtain ⟨ht4, hb4, hr3⟩ := HR3.out
        have hko : KeepsOthers W (W3.setCell ⟨w.heap.size + 1, 0, none⟩ (.bool true)) := KeepsOthers.trans ⟨hb4.size, fun x o ho _ => (hb4.block x (lt_of_block ho)).trans ho⟩ (KeepsOthers.setCell W3 _ _)
        refine ⟨by simp, .inl ⟨_, _, rfl, run_takeDeferred (hko.same D _ HW.out.2.2.2 rfl), ?_⟩⟩
        obtain ⟨b1, hbd, hBW, hK⟩ := HW.out
        have hDs : w.heap.size + 1 ≠ D := fun e => by rw [← e, b1] at hK; cases hK
        have hrow : ((W3.setCell ⟨w.heap.size + 1, 0, none⟩ (.bool true)).putObj D (.deferred none)).heap[w.heap.size + 1]? = some (.cells #[.bool true] 4 (0, 0)) := by
          refine (World.putObj_heap_other hDs).trans ?_
          refine (heap_setCell_same _ _ _ _ _ _ hr3).trans ?_
          rfl
        refine ⟨_, results_bool rfl ht4 (by rw [cell_of_row _ _ 0 _ _ _ hrow]; rfl), rfl, ?_⟩
        have hb5 : Below w.heap.size w (W3.setCell ⟨w.heap.size + 1, 0, none⟩ (.bool true)) := (hBW.trans (hb4.mono hBW.size)).setCell (by simp) _
        exact hb5.grown (grownBy_putObj' _ D _) hb5.size fun j e => by cases e; exact hwD
      · go_region_with (first
          | (go_at_call 11; refine HAL.out.mono ?_; (rintro e W3 ⟨rfl, hb3⟩); have k0' := (hb3.cell (p := ⟨w.heap.size, 0, none⟩) (by exact l0)).trans k0; have k1' := (hb3.cell (p := ⟨w1.heap.size, 0, none⟩) (by exact l1)).trans k1; have k2' := (hb3.cell (p := ⟨w2.heap.size, 0, none⟩) (by exact l2)).trans k2; have r1' := (hb3.block _ (Nat.lt_of_lt_of_le (lt_of_block HW.out.1) HW.out.2.1.size)).trans ((HW.out.2.1.block _ (lt_of_block HW.out.1)).trans HW.out.1); have hfz := free_row r1' 0; have k3' : W3.cell? ⟨w.heap.size + 1, 0, none⟩ = some (.bool false) := (by rw [cell_of_row _ _ 0 _ _ _ r1']; rfl); have HB3 := Lib.hid (And.intro hb3 r1'); clear hb3 r1')
          | (go_at_call 21; refine (HLEN.out _ HB3.out.1).mono ?_; (rintro e W4 ⟨rfl, rfl⟩)))
        all_goals exact ⟨rfl, rfl, _, rfl, HW.out.2.1.trans (HB3.out.1.mono HW.out.2.1.size), HB3.out.2⟩
    case stop =>
      rintro D c pre W hD _ ⟨rfl, h0, hBW⟩ hK
      have b0 : W.heap[w.heap.size]? = some (.cells #[.int .i64 stop] 3 (0, 0)) := (hBW.block _ (lt_of_block HQ.out.1)).trans HQ.out.1
      have b1 := (hBW.block _ (lt_of_block HQ.out.2.1)).trans HQ.out.2.1
      have b2 := (hBW.block _ (lt_of_block HQ.out.2.2.1)).trans HQ.out.2.2.1
      have htW := HQ.out.2.2.2.2.below hBW
      have hwD : w.heap.size ≤ D := by have := HQ.out.2.2.2.1.size; omega
      have hBW : Below w.heap.size w W := HQ.out.2.2.2.1.trans (hBW.mono HQ.out.2.2.2.1.size)
      obtain ⟨len, hle⟩ : ∃ len, len = l.length := ⟨_, rfl⟩
      have HLL := Lib.hid hle
      clear hle
      refine wpIn_wide.2 ?_
      by_cases hz : stop = (len : Int)
      · rw [hz] at h0 b0
        clear hz
        have k0 : W.cell? ⟨w.heap.size, 0, none⟩ = some (.int .i64 (len : Int)) := by rw [cell_of_row _ _ 0 _ _ _ b0]; rfl
        have k1 : W.cell? ⟨w1.heap.size, 0, none⟩ = some (.pointer (some ⟨t, 0, none⟩)) := by rw [cell_of_row _ _ 0 _ _ _ b2]; rfl
        have k2 : W.cell? ⟨w2.heap.size, 0, none⟩ = some (.int .i64 (len : Int)) := by rw [cell_of_row _ _ 0 _ _ _ h0]; rfl
        have hbd : Below W.heap.size W W.drew := (Below.refl _ W).drew
        have HAL := Lib.hid (alive_any W.drew)
        have HLEN : Hid (∀ W3, Below W.drew.heap.size W.drew W3 → Calls Try.prog 21 #[.pointer (some ⟨t, 0, none⟩)] W3 fun e w' => e = .returned (.int .i64 (len : Int)) ∧ w' = W3) := Lib.hid fun W3 hb => by
          have := len_L ((htW.below hbd).below hb)
          rw [← HLL.out] at this
          exact this
        have l0 : w.heap.size < W.drew.heap.size := Nat.lt_of_lt_of_le (lt_of_block b0) hbd.size
        have l1 : w1.heap.size < W.drew.heap.size := Nat.lt_of_lt_of_le (lt_of_block b2) hbd.size
        have l2 : w2.heap.size < W.drew.heap.size := Nat.lt_of_lt_of_le (lt_of_block h0) hbd.size
        have HW := Lib.hid (And.intro b1 (And.intro hbd (And.intro hBW hK)))
        clear h0 hBW hK b0 b1 b2 hbd htW
        go_wp2_with fail
        refine Code.wp_mono (Q := TailQ D (w.heap.size + 1) W) (fun e a' w' hh => ?_) ?_
        · rcases a' with ⟨tmps', defers'⟩
          cases e <;> first | exact hh.elim | skip
          obtain ⟨hdef, ht4, W3, rfl, hb4, hr3⟩ := hh
          dsimp only at hdef ht4
          subst hdef
          have HR3 := Lib.hid (And.intro ht4 (And.intro hb4 hr3))
          clear ht4 hb4 hr3
          go_wp2_with fail
          obtain ⟨ht4, hb4, hr3⟩ := HR3.out
          have hko : KeepsOthers W (W3.setCell ⟨w.heap.size + 1, 0, none⟩ (.bool true)) := KeepsOthers.trans ⟨hb4.size, fun x o ho _ => (hb4.block x (lt_of_block ho)).trans ho⟩ (KeepsOthers.setCell W3 _ _)
          refine ⟨by simp, .inl ⟨_, _, rfl, run_takeDeferred (hko.same D _ HW.out.2.2.2 rfl), ?_⟩⟩
          obtain ⟨b1, hbd, hBW, hK⟩ := HW.out
          have hDs : w.heap.size + 1 ≠ D := fun e => by rw [← e, b1] at hK; cases hK
          have hrow : ((W3.setCell ⟨w.heap.size + 1, 0, none⟩ (.bool true)).putObj D (.deferred none)).heap[w.heap.size + 1]? = some (.cells #[.bool true] 4 (0, 0)) := by
            refine (World.putObj_heap_other hDs).trans ?_
            refine (heap_setCell_same _ _ _ _ _ _ hr3).trans ?_
            rfl
          refine ⟨_, results_bool rfl ht4 (by rw [cell_of_row _ _ 0 _ _ _ hrow]; rfl), rfl, ?_⟩
          have hb5 : Below w.heap.size w (W3.setCell ⟨w.heap.size + 1, 0, none⟩ (.bool true)) := (hBW.trans (hb4.mono hBW.size)).setCell (by simp) _
          exact hb5.grown (grownBy_putObj' _ D _) hb5.size fun j e => by cases e; exact hwD
        · go_region_with (first
            | (go_at_call 11; refine HAL.out.mono ?_; (rintro e W3 ⟨rfl, hb3⟩); have k0' := (hb3.cell (p := ⟨w.heap.size, 0, none⟩) (by exact l0)).trans k0; have k1' := (hb3.cell (p := ⟨w1.heap.size, 0, none⟩) (by exact l1)).trans k1; have k2' := (hb3.cell (p := ⟨w2.heap.size, 0, none⟩) (by exact l2)).trans k2; have r1' := (hb3.block _ (Nat.lt_of_lt_of_le (lt_of_block HW.out.1) HW.out.2.1.size)).trans ((HW.out.2.1.block _ (lt_of_block HW.out.1)).trans HW.out.1); have hfz := free_row r1' 0; have k3' : W3.cell? ⟨w.heap.size + 1, 0, none⟩ = some (.bool false) := (by rw [cell_of_row _ _ 0 _ _ _ r1']; rfl); have HB3 := Lib.hid (And.intro hb3 r1'); clear hb3 r1')
            | (go_at_call 21; refine (HLEN.out _ HB3.out.1).mono ?_; (rintro e W4 ⟨rfl, rfl⟩)))
          all_goals exact ⟨rfl, rfl, _, rfl, HW.out.2.1.trans (HB3.out.1.mono HW.out.2.1.size), HB3.out.2⟩
      · have hz2 : ((stop == (len : Int)) : Bool) = false := by simpa using hz
        have k0 : W.cell? ⟨w.heap.size, 0, none⟩ = some (.int .i64 stop) := by rw [cell_of_row _ _ 0 _ _ _ b0]; rfl
        have k1 : W.cell? ⟨w1.heap.size, 0, none⟩ = some (.pointer (some ⟨t, 0, none⟩)) := by rw [cell_of_row _ _ 0 _ _ _ b2]; rfl
        have k2 : W.cell? ⟨w2.heap.size, 0, none⟩ = some (.int .i64 stop) := by rw [cell_of_row _ _ 0 _ _ _ h0]; rfl
        have hbd : Below W.heap.size W W.drew := (Below.refl _ W).drew
        have HAL := Lib.hid (alive_any W.drew)
        have HLEN : Hid (∀ W3, Below W.drew.heap.size W.drew W3 → Calls Try.prog 21 #[.pointer (some ⟨t, 0, none⟩)] W3 fun e w' => e = .returned (.int .i64 (len : Int)) ∧ w' = W3) := Lib.hid fun W3 hb => by
          have := len_L ((htW.below hbd).below hb)
          rw [← HLL.out] at this
          exact this
        have l0 : w.heap.size < W.drew.heap.size := Nat.lt_of_lt_of_le (lt_of_block b0) hbd.size
        have l1 : w1.heap.size < W.drew.heap.size := Nat.lt_of_lt_of_le (lt_of_block b2) hbd.size
        have l2 : w2.heap.size < W.drew.heap.size := Nat.lt_of_lt_of_le (lt_of_block h0) hbd.size
        have HW := Lib.hid (And.intro b1 (And.intro hbd (And.intro hBW hK)))
        clear h0 hBW hK b0 b1 b2 hbd htW
        go_wp2_with fail
        refine Code.wp_mono (Q := TailQ D (w.heap.size + 1) W) (fun e a' w' hh => ?_) ?_
        · rcases a' with ⟨tmps', defers'⟩
          cases e <;> first | exact hh.elim | skip
          obtain ⟨hdef, ht4, W3, rfl, hb4, hr3⟩ := hh
          dsimp only at hdef ht4
          subst hdef
          have HR3 := Lib.hid (And.intro ht4 (And.intro hb4 hr3))
          clear ht4 hb4 hr3
          go_wp2_with fail
          obtain ⟨ht4, hb4, hr3⟩ := HR3.out
          have hko : KeepsOthers W (W3.setCell ⟨w.heap.size + 1, 0, none⟩ (.bool true)) := KeepsOthers.trans ⟨hb4.size, fun x o ho _ => (hb4.block x (lt_of_block ho)).trans ho⟩ (KeepsOthers.setCell W3 _ _)
          refine ⟨by simp, .inl ⟨_, _, rfl, run_takeDeferred (hko.same D _ HW.out.2.2.2 rfl), ?_⟩⟩
          obtain ⟨b1, hbd, hBW, hK⟩ := HW.out
          have hDs : w.heap.size + 1 ≠ D := fun e => by rw [← e, b1] at hK; cases hK
          have hrow : ((W3.setCell ⟨w.heap.size + 1, 0, none⟩ (.bool true)).putObj D (.deferred none)).heap[w.heap.size + 1]? = some (.cells #[.bool true] 4 (0, 0)) := by
            refine (World.putObj_heap_other hDs).trans ?_
            refine (heap_setCell_same _ _ _ _ _ _ hr3).trans ?_
            rfl
          refine ⟨_, results_bool rfl ht4 (by rw [cell_of_row _ _ 0 _ _ _ hrow]; rfl), rfl, ?_⟩
          have hb5 : Below w.heap.size w (W3.setCell ⟨w.heap.size + 1, 0, none⟩ (.bool true)) := (hBW.trans (hb4.mono hBW.size)).setCell (by simp) _
          exact hb5.grown (grownBy_putObj' _ D _) hb5.size fun j e => by cases e; exact hwD
        · go_region_with (first
            | (go_at_call 11; refine HAL.out.mono ?_; (rintro e W3 ⟨rfl, hb3⟩); have k0' := (hb3.cell (p := ⟨w.heap.size, 0, none⟩) (by exact l0)).trans k0; have k1' := (hb3.cell (p := ⟨w1.heap.size, 0, none⟩) (by exact l1)).trans k1; have k2' := (hb3.cell (p := ⟨w2.heap.size, 0, none⟩) (by exact l2)).trans k2; have r1' := (hb3.block _ (Nat.lt_of_lt_of_le (lt_of_block HW.out.1) HW.out.2.1.size)).trans ((HW.out.2.1.block _ (lt_of_block HW.out.1)).trans HW.out.1); have hfz := free_row r1' 0; have k3' : W3.cell? ⟨w.heap.size + 1, 0, none⟩ = some (.bool false) := (by rw [cell_of_row _ _ 0 _ _ _ r1']; rfl); have HB3 := Lib.hid (And.intro hb3 r1'); clear hb3 r1')
            | (go_at_call 21; refine (HLEN.out _ HB3.out.1).mono ?_; (rintro e W4 ⟨rfl, rfl⟩)))
          all_goals exact ⟨rfl, rfl, _, rfl, HW.out.2.1.trans (HB3.out.1.mono HW.out.2.1.size), HB3.out.2⟩
end Go.Proofs.Ytdgapagpmdfndaa
