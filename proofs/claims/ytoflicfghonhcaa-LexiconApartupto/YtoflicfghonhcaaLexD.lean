/- WALKS OF LAYER 15 (lexicon): Drop. -/
import Derived.Test.YtoflicfghonhcaaLexB
import Derived.Deep.CutRange
import Derived.StillTailTactics
import Derived.BigRegion
namespace Go.Proofs.Ytoflicfghonhcaa
open Go.RowKit Go.WideMaps Go.Maps
set_option linter.unusedVariables false
set_option maxRecDepth 100000 in
theorem drop_no (B p : Nat) (vw : Value) (mb m : Nat) (ws : List (ByteArray × Nat)) (f : ByteArray → Option Nat) (cnt : Nat) (w : World) (h : BookAt w B p vw mb m ws f cnt) (hw : ws.length ≤ 1000000) (n : Int) (hn : (atW ws n).2 = 0) :
    Calls Try.prog 28 #[.pointer (some ⟨p, 0, none⟩), .int .i64 n] w fun e w' => e = .returned (.bool false) ∧ Below w.heap.size w w' := by
  have H := Lib.hid (at_any B p vw mb m ws f cnt w h hw n)
  rw [hn] at H
  generalize (atW ws n).1 = x at *
  clear h
  go_enter Try.func28, Try.ntmps28
  go_wp2_with fail
  refine H.out.mono ?_
  rintro e w1 ⟨rfl, hb1⟩
  go_wp2_with fail
  go_ret
  exact ⟨rfl, hb1.alloc hb1.size _⟩
set_option maxRecDepth 100000 in
set_option maxHeartbeats 1000000 in
theorem drop_more (B p : Nat) (vw : Value) (mb m : Nat) (ws : List (ByteArray × Nat)) (f : ByteArray → Option Nat) (cnt : Nat) (w : World) (h : BookAt w B p vw mb m ws f cnt) (hw : ws.length ≤ 1000000) (i u : Nat) (hi : i < ws.length) (hu : (ws.getD i default).2 = u + 2) (hub : u ≤ 1000000) :
    Calls Try.prog 28 #[.pointer (some ⟨p, 0, none⟩), .int .i64 ((i + 1 : Nat) : Int)] w fun e w' => e = .returned (.bool true) ∧ BookAt w' B p vw mb m (ws.set i ((ws.getD i default).1, u + 1)) f cnt ∧ Turns B w w' := by
  have H := Lib.hid (at_any B p vw mb m ws f cnt w h hw ((i + 1 : Nat) : Int))
  have ha : atW ws ((i + 1 : Nat) : Int) = ws.getD i default := by
    unfold atW
    rw [if_neg (by omega), show ((i + 1 : Nat) : Int).toNat - 1 = i by omega]
  rw [ha, hu] at H
  obtain ⟨g, cap, rfl, hBg, hg, hcap, _⟩ := h.own.shape (by omega)
  have HH := Lib.hid h
  obtain ⟨k, hk⟩ : ∃ k, k = ws.length := ⟨_, rfl⟩
  have HK := Lib.hid hk
  have HU := Lib.hid hu
  rw [← hk] at hi hw
  have z1 : IntKind.i64.wrap (((i + 1 : Nat) : Int) - 1) = (i : Int) := by rw [IntKind.wrap_i64]; omega
  generalize hnm : (ws.getD i default).1 = nm at *
  have HNM := Lib.hid hnm
  clear h hk hu ha hnm
  go_enter Try.func28, Try.ntmps28
  go_wp2_with fail
  refine H.out.mono ?_
  rintro e w1 ⟨rfl, hb1⟩
  have hB : B ≤ w.heap.size := by have := lt_of_block HH.out.row; have := HH.out.bp; omega
  have hb2 := hb1.alloc hb1.size (.cells #[.string nm, .int .i64 ((u + 2 : Nat) : Int)] 65)
  have HH1 := Lib.hid ((HH.out.below hb1).below ((Below.refl _ _).alloc (Nat.le_refl _) (.cells #[.string nm, .int .i64 ((u + 2 : Nat) : Int)] 65)))
  have HH0 := Lib.hid (HH.out.below hb1)
  have c0 := HH0.out.cell0.1
  have d2 := HH0.out.own.cellAt (i * 2 + 1) (by rw [← HK.out]; omega)
  rw [(wordCells_at ws i (by rw [← HK.out]; exact hi)).2, HU.out] at d2
  have e2 := HH0.out.own.frozenAt (i * 2 + 1)
  have hgl : g < w1.heap.size := Nat.lt_of_lt_of_le hg hb1.size
  have hpl : p < w1.heap.size := lt_of_block HH0.out.row
  rw [← HK.out] at c0
  go_wp2_with fail
  go_ret
  rw [show (u : Int) + 2 - 1 = ((u + 1 : Nat) : Int) by omega]
  have hx := HH0.out.setUses i (u + 1) (by rw [← HK.out]; exact hi)
  rw [HNM.out] at hx
  exact ⟨rfl, hx.below ((Below.refl _ _).alloc (Nat.le_refl _) _), ((Turns.of hb1 hB).setCell (by exact hBg) HH0.out.gRow.choose_spec (.inr rfl) _).then ((Below.refl _ _).alloc (Nat.le_refl _) _) hB⟩
/-- The words without those at the end that are none. -/
def popT (ws : List (ByteArray × Nat)) : List (ByteArray × Nat) := (ws.reverse.dropWhile (fun x => x.2 == 0)).reverse
theorem popT_nil : popT [] = [] := rfl
theorem popT_yes (ws : List (ByteArray × Nat)) (x : ByteArray × Nat) (h : x.2 = 0) : popT (ws ++ [x]) = popT ws := by simp [popT, h]
theorem popT_no (ws : List (ByteArray × Nat)) (x : ByteArray × Nat) (h : x.2 ≠ 0) : popT (ws ++ [x]) = ws ++ [x] := by simp [popT, h]
/-- A shorter row of words laid into the book. -/
theorem BookAt.cutW {w : World} {B p g cap : Nat} {mb n : Nat} {ws : List (ByteArray × Nat)} {f : ByteArray → Option Nat} {cnt : Nat} (h : BookAt w B p (.slice (some ⟨g, 0, none⟩) ws.length cap) mb n ws f cnt) (j : Nat) (hj : j ≤ ws.length) (hc : j ≤ cap) :
    BookAt (w.setCell ⟨p, 0, none⟩ (.slice (some ⟨g, 0, none⟩) j j)) B p (.slice (some ⟨g, 0, none⟩) j j) mb n (ws.take j) f cnt := by
  have hown := h.own.cut j j hj (Nat.le_refl _) hc
  have hg : w.grownBy w (Value.slice (some ⟨g, 0, none⟩) ws.length cap).ownBlock := World.grownBy.refl _ _
  refine h.pushW hg ?_
  rw [List.length_take, Nat.min_eq_left hj]
  have e : (wordCells ws).take (j * 2) = wordCells (ws.take j) := by
    rw [show ws = ws.take j ++ ws.drop j by simp, wordCells_append, List.take_append_of_le_length (by rw [wordCells_len, List.length_take]; omega)]
    rw [List.take_of_length_le (by rw [wordCells_len, List.length_take]; omega)]
    simp
  rw [← e]
  exact hown
theorem list_last (ws : List (ByteArray × Nat)) : ws = [] ∨ ∃ r x, ws = r ++ [x] := by
  rcases List.eq_nil_or_concat ws with e | ⟨r, x, e⟩
  · exact .inl e
  · exact .inr ⟨r, x, by simpa using e⟩
def lenCell (w : World) (p : Nat) : Nat := match w.cell? ⟨p, 0, none⟩ with | some (.slice _ n _) => n | _ => 0
set_option maxRecDepth 100000 in
set_option maxHeartbeats 1000000 in
theorem drop_last (B p : Nat) (vw : Value) (mb m : Nat) (ws : List (ByteArray × Nat)) (f : ByteArray → Option Nat) (cnt : Nat) (w : World) (h : BookAt w B p vw mb m ws f cnt) (hw : ws.length ≤ 1000000) (i : Nat) (nm : ByteArray) (hi : i < ws.length) (hu : ws.getD i default = (nm, 1)) (hsz : nm.size ≤ maxLen) (hf : (f nm).isSome = true) :
    Calls Try.prog 28 #[.pointer (some ⟨p, 0, none⟩), .int .i64 ((i + 1 : Nat) : Int)] w fun e w' => e = .returned (.bool true) ∧ (∃ v', BookAt w' B p v' mb m (popT (ws.set i (ByteArray.empty, 0))) (updN f nm none) (cnt - 1)) ∧ Turns B w w' := by
  have H := Lib.hid (at_any B p vw mb m ws f cnt w h hw ((i + 1 : Nat) : Int))
  have ha : atW ws ((i + 1 : Nat) : Int) = ws.getD i default := by
    unfold atW
    rw [if_neg (by omega), show ((i + 1 : Nat) : Int).toNat - 1 = i by omega]
  rw [ha, hu] at H
  obtain ⟨g, cap, rfl, hBg, hg, hcap, _⟩ := h.own.shape (by omega)
  have HH := Lib.hid h
  obtain ⟨k, hk⟩ : ∃ k, k = ws.length := ⟨_, rfl⟩
  have HK := Lib.hid hk
  have HU := Lib.hid hu
  have HF := Lib.hid hf
  rw [← hk] at hi hw
  have z1 : IntKind.i64.wrap (((i + 1 : Nat) : Int) - 1) = (i : Int) := by rw [IntKind.wrap_i64]; omega
  have z2 : (0 : Int) ≤ (i : Int) := by omega
  have z3 : (i : Int) < (k : Int) := by omega
  clear h hk hu ha hf
  go_enter Try.func28, Try.ntmps28
  go_wp2_with fail
  refine H.out.mono ?_
  rintro e w1 ⟨rfl, hb1⟩
  have hB : B ≤ w.heap.size := by have := lt_of_block HH.out.row; have := HH.out.bp; omega
  have HH0 := Lib.hid (HH.out.below hb1)
  have c0 := HH0.out.cell0.1
  have d2 := HH0.out.own.cellAt (i * 2 + 1) (by rw [← HK.out]; omega)
  rw [(wordCells_at ws i (by rw [← HK.out]; exact hi)).2, HU.out] at d2
  have e2 := HH0.out.own.frozenAt (i * 2 + 1)
  have hgl : g < w1.heap.size := Nat.lt_of_lt_of_le hg hb1.size
  have hpl : p < w1.heap.size := lt_of_block HH0.out.row
  rw [← HK.out] at c0
  go_upto_region 7 with fail
  have hx := HH0.out.setUses i 0 (by rw [← HK.out]; exact hi)
  rw [HU.out] at hx
  have HX := Lib.hid (hx.below ((Below.refl _ _).alloc (Nat.le_refl _) (.cells #[.string nm, .int .i64 ((1 : Nat) : Int)] 65)))
  have hbx : Turns B w ((w1.setCell ⟨g, i * 2 + 1, none⟩ (.int .i64 ((0 : Nat) : Int))).alloc (.cells #[.string nm, .int .i64 ((1 : Nat) : Int)] 65)) := ((Turns.of hb1 hB).setCell (by exact hBg) HH0.out.gRow.choose_spec (.inr rfl) _).then ((Below.refl _ _).alloc (Nat.le_refl _) _) hB
  have ht5 : ((w1.setCell ⟨g, i * 2 + 1, none⟩ (.int .i64 ((0 : Nat) : Int))).alloc (.cells #[.string nm, .int .i64 ((1 : Nat) : Int)] 65)).cell? ⟨w1.heap.size, 0, none⟩ = some (.string nm) := by
    have := heap_alloc_new (w1.setCell ⟨g, i * 2 + 1, none⟩ (.int .i64 ((0 : Nat) : Int))) (.cells #[.string nm, .int .i64 ((1 : Nat) : Int)] 65)
    have e : (w1.setCell ⟨g, i * 2 + 1, none⟩ (.int .i64 ((0 : Nat) : Int))).heap.size = w1.heap.size := by simp [World.setCell]
    rw [e] at this
    rw [cell_of_row _ _ 0 _ _ _ this]
    rfl
  change Hid (BookAt ((w1.setCell ⟨g, i * 2 + 1, none⟩ (.int .i64 0)).alloc (.cells #[.string nm, .int .i64 1] 65)) _ _ _ _ _ _ _ _) at HX
  change Turns B w ((w1.setCell ⟨g, i * 2 + 1, none⟩ (.int .i64 0)).alloc (.cells #[.string nm, .int .i64 1] 65)) at hbx
  change ((w1.setCell ⟨g, i * 2 + 1, none⟩ (.int .i64 0)).alloc (.cells #[.string nm, .int .i64 1] 65)).cell? _ = _ at ht5
  generalize World.alloc (World.setCell w1 _ _) _ = w2 at *
  clear hx c0 d2 e2
  have c1 := HX.out.cell0.2
  go_still_tail 6, (by kernel_rfl)
  change wpList _ _ _ _ _ w2.drew
  have HX2 := Lib.hid (HX.out.below ((Below.refl _ _).drew))
  have hb2 : Turns B w w2.drew := hbx.then (Below.refl _ _).drew hB
  generalize World.drew w2 = w3 at *
  clear HX hbx c1 ht5
  obtain ⟨w4, hrun, hnums, ht⟩ := HX2.out.nums.del nm hsz HF.out 0
  have HT := Lib.hid (HX2.out.turned ht hnums)
  clear hnums ht
  have hb4 := hb2.trans HT.out.2
  have HB4 := Lib.hid HT.out.1
  clear HX2 HT hb2
  have hl4 : (ws.set i (nm, 0)).length = ws.length := List.length_set ..
  have HW4 : BookAt w4 B p (.slice (some ⟨g, 0, none⟩) (ws.set i (nm, 0)).length cap) mb m (ws.set i (nm, 0)) (updN f nm none) (cnt - 1) := by rw [hl4]; exact HB4.out
  have c0 := HB4.out.cell0.1
  rw [← HK.out] at c0
  have d1 := HW4.own.cellAt (i * 2) (by rw [hl4, ← HK.out]; omega)
  have d2 := HW4.own.cellAt (i * 2 + 1) (by rw [hl4, ← HK.out]; omega)
  have eat := wordCells_at (ws.set i (nm, 0)) i (by rw [hl4, ← HK.out]; exact hi)
  rw [eat.1] at d1
  rw [eat.2] at d2
  have e1 := HW4.own.frozenAt (i * 2)
  have e2 := HW4.own.frozenAt (i * 2 + 1)
  generalize ((ws.set i (nm, 0)).getD i default).1 = o1 at d1
  generalize ((ws.set i (nm, 0)).getD i default).2 = o2 at d2
  have HW5 := Lib.hid (HW4.setWord i ByteArray.empty 0 (by rw [hl4, ← HK.out]; exact hi))
  rw [List.set_set, hl4, ← HK.out] at HW5
  have hb5 : Turns B w ((w4.setCell ⟨g, i * 2, none⟩ (.string ⟨#[]⟩)).setCell ⟨g, i * 2 + 1, none⟩ (.int .i64 0)) := hb4.setCell2 hBg HB4.out.gRow.choose_spec (.inr rfl) _ _ _ _
  change Hid (BookAt ((w4.setCell ⟨g, i * 2, none⟩ (.string ⟨#[]⟩)).setCell ⟨g, i * 2 + 1, none⟩ (.int .i64 0)) _ _ _ _ _ _ _ _) at HW5
  clear HB4 HW4 eat
  go_wp2_with fail
  have HWS : Hid ((ws.set i (ByteArray.empty, 0)).length = k ∧ k ≤ cap) := Lib.hid ⟨by rw [List.length_set]; exact HK.out.symm, by rw [HK.out]; exact hcap⟩
  generalize World.setCell (World.setCell w4 _ _) _ _ = w5 at *
  obtain ⟨WS, hWS⟩ : ∃ WS, WS = ws.set i (ByteArray.empty, 0) := ⟨_, rfl⟩
  obtain ⟨cn, hcn⟩ : ∃ cn, cn = cnt - 1 := ⟨_, rfl⟩
  obtain ⟨F, hF⟩ : ∃ F, F = updN f nm none := ⟨_, rfl⟩
  rw [← hWS, ← hcn, ← hF] at HW5
  rw [← hWS] at HWS
  have HE := Lib.hid (And.intro hWS (And.intro hcn hF))
  clear hWS hcn hF HK HU HF HH HH0 H hl4 hb1 hb4 d1 d2 e1 e2 c0 z1 z2 z3 hcap hsz hg hgl hpl hi hrun
  go_loopw [41] (fun _ wr => ∃ (j c' : Nat) (ws' : List (ByteArray × Nat)), Hid (ws'.length = j) ∧ j ≤ c' ∧ j ≤ 1000000 ∧ Hid (BookAt wr B p (.slice (some ⟨g, 0, none⟩) j c') mb m ws' F cn) ∧ Hid (popT WS = popT ws') ∧ Hid (Turns B w wr)) (fun _ wr => lenCell wr p)
  case atStart => exact ⟨k, cap, WS, Lib.hid HWS.out.1, HWS.out.2, hw, HW5, Lib.hid rfl, Lib.hid hb5⟩
  case round =>
    clear hb5 HW5 HWS hw
    obtain ⟨j, c', ws', HL, hjc, hj, HB, HP, Hb⟩ := hrel
    obtain ⟨c0, c1⟩ := HB.out.cell0
    rcases list_last ws' with rfl | ⟨r, x, rfl⟩
    · obtain rfl : j = 0 := HL.out.symm
      have c0 : wr.cell? ⟨p, 0, none⟩ = some (.slice (some ⟨g, 0, none⟩) 0 c') := c0
      go_wp2_with fail
      go_quiet (fail)
      go_wp2_with fail
      go_ret
      refine ⟨rfl, ⟨.slice (some ⟨g, 0, none⟩) 0 c', ?_⟩, Hb.out.then (below_drewN (Below.refl _ _) _) hB⟩
      rw [← HE.out.1, ← HE.out.2.1, ← HE.out.2.2, HP.out]
      exact HB.out.below (below_drewN (Below.refl _ _) _)
    · obtain ⟨n, hn⟩ : ∃ n, n = r.length := ⟨_, rfl⟩
      obtain rfl : j = n + 1 := by rw [← HL.out, hn]; simp
      have HO := HB.out.own
      rw [HL.out] at HO
      have hlt := HO.cellAt (n * 2 + 1) (by omega)
      clear HO
      have eat := (wordCells_at (r ++ [x]) n (by rw [hn]; simp)).2
      have egd : (r ++ [x]).getD n default = x := by rw [hn]; simp
      rw [eat, egd] at hlt
      have z1 : IntKind.i64.wrap (((n + 1 : Nat) : Int) - 1) = (n : Int) := by rw [IntKind.wrap_i64]; omega
      have z2 : (0 : Int) ≤ (n : Int) := by omega
      have z3 : (n : Int) < ((n + 1 : Nat) : Int) := by omega
      have HN := Lib.hid hn
      clear eat egd hn
      obtain ⟨xn, xu⟩ := x
      by_cases hx : xu = 0
      · subst hx
        dsimp only at hlt
        go_wp2_with fail
        go_quiet (fail)
        have HBz := Lib.hid (HB.out.below (below_drewN (Below.refl _ _) nq))
        have Hbz := Lib.hid (Hb.out.then (below_drewN (Below.refl _ _) nq) hB)
        have HMz : Hid (lenCell wr p = n + 1) := Lib.hid (by unfold lenCell; rw [c0])
        generalize World.drewN wr nq = wz at *
        clear c0 c1 hlt HB Hb
        obtain ⟨c0, c1⟩ := HBz.out.cell0
        have f0 := free_row HBz.out.row 0
        go_wp2_with fail
        have y1 : n ≤ c' := by omega
        have y2 : (n : Int) ≤ (c' : Int) := by omega
        have y3 : IntKind.i64.wrap (n : Int) = (n : Int) := by rw [IntKind.wrap_i64]; omega
        go_still_tail 20, (by kernel_rfl)
        change wpList _ _ _ _ _ wz.drew
        have HBd := Lib.hid (HBz.out.below ((Below.refl _ _).drew))
        have Hbd := Lib.hid (Hbz.out.then (Below.refl _ _).drew hB)
        generalize World.drew wz = wd at *
        clear c0 c1 f0 HBz Hbz
        obtain ⟨c0, c1⟩ := HBd.out.cell0
        have f0 := free_row HBd.out.row 0
        go_wp2_with fail
        have hr : (r ++ [(xn, 0)]).take n = r := by rw [HN.out]; simp
        have HBn : BookAt (wd.setCell ⟨p, 0, none⟩ (.slice (some ⟨g, 0, none⟩) n n)) B p (.slice (some ⟨g, 0, none⟩) n n) mb m r F cn := by
          have hx := HBd.out
          rw [← HL.out] at hx
          have := hx.cutW n (by rw [HL.out]; omega) y1
          rw [hr] at this
          exact this
        go_roundw
        case rel => exact ⟨n, n, r, Lib.hid HN.out.symm, Nat.le_refl _, by omega, Lib.hid HBn, Lib.hid (by rw [HP.out, popT_yes r _ rfl]), Lib.hid (Hbd.out.setCell (by exact HBd.out.bp) HBd.out.row (.inl rfl) _)⟩
        case measure =>
          rw [HMz.out]
          unfold lenCell
          rw [HBn.cell0.1]
          exact Nat.lt_succ_self _
      · dsimp only at hlt
        have y0 : ((xu : Int) == 0) = false := by simp; omega
        go_wp2_with fail
        go_quiet (fail)
        go_wp2_with fail
        go_ret
        refine ⟨rfl, ⟨.slice (some ⟨g, 0, none⟩) (n + 1) c', ?_⟩, Hb.out.then (below_drewN (Below.refl _ _) _) hB⟩
        rw [← HE.out.1, ← HE.out.2.1, ← HE.out.2.2, HP.out, popT_no r (xn, xu) hx]
        exact HB.out.below (below_drewN (Below.refl _ _) _)
end Go.Proofs.Ytoflicfghonhcaa
