/- LAYER 13 (tabula): put, into a part that has rows. -/
import Derived.Test.YtdgapagpmdfndaaTabF
import Derived.Deep.RegionWith
namespace Go.Proofs.Ytdgapagpmdfndaa
open Go.RowKit
set_option linter.unusedVariables false
theorem free_row {w : World} {b : Nat} {cs : Array Value} {t : TypeId} (h : w.heap[b]? = some (.cells cs t (0, 0))) (i : Nat) : w.frozen? ⟨b, i, none⟩ = false := by simp [World.frozen?, h]
/-- A row laid into a place that is there. -/
theorem NodeAt.setRow {w : World} {B p g cap : Nat} {sv : Value} {rows : List Row} {subs : List Nat} {m : Int} (h : NodeAt w B p (.slice (some ⟨g, 0, none⟩) rows.length cap) sv rows subs m) (t : Nat) (ht : t < rows.length) (x : Row) :
    NodeAt ((w.setCell ⟨g, t * 2, none⟩ (.int .i64 x.1)).setCell ⟨g, t * 2 + 1, none⟩ (.int .i64 x.2)) B p (.slice (some ⟨g, 0, none⟩) rows.length cap) sv (rows.set t x) subs m := by
  obtain ⟨hl, ⟨_, h0⟩ | ⟨g', cap', cur, hv, hBg, hcur, hnc, hcm, hcs, htk⟩⟩ := h.rs
  · omega
  cases hv
  have hgp : p ≠ g := fun e => by subst e; rw [h.row] at hcur; simp at hcur
  have hss : ∀ r, sv.ownBlock = some r → r ≠ g := fun r hr e => by
    obtain ⟨_, _, cur2, hc⟩ := h.ss.block r hr
    subst e
    rw [hcur] at hc
    simp at hc
  refine ⟨(Below.heap_setCell _ _ _ _ (by exact hgp)).trans ((Below.heap_setCell _ _ _ _ (by exact hgp)).trans h.row), ?_, (h.ss.keep fun r hr => Below.heap_setCell _ _ _ _ (by exact hss r hr)).keep fun r hr => Below.heap_setCell _ _ _ _ (by exact hss r hr), h.bp⟩
  have hsetc : ((rowCells rows).set (t * 2) (.int .i64 x.1)).set (t * 2 + 1) (.int .i64 x.2) = rowCells (rows.set t x) := by
    have e : rows = rows.take t ++ rows.getD t default :: rows.drop (t + 1) := by rw [← drop_getD rows t ht, List.take_append_drop]
    have e2 : rows.set t x = rows.take t ++ x :: rows.drop (t + 1) := by
      conv => lhs; rw [e]
      rw [List.set_append_right _ _ (by rw [List.length_take]; omega), List.length_take, show t - min t rows.length = 0 by omega]
      rfl
    have hlt : (rowCells (rows.take t)).length = t * 2 := by rw [rowCells_len, List.length_take]; omega
    rw [e2, rowCells_append]
    conv => lhs; rw [e]
    rw [rowCells_append, List.set_append_right _ _ (by omega), hlt, Nat.sub_self, List.set_append_right _ _ (by omega), hlt, show t * 2 + 1 - t * 2 = 1 by omega]
    rfl
  rw [List.length_set]
  refine ⟨by rw [rowCells_len, List.length_set], .inr ⟨g, cap, _, rfl, hBg, heap_setCell_same _ _ _ _ _ _ (heap_setCell_same _ _ _ _ _ _ hcur), hnc, hcm, by rw [Array.size_setIfInBounds, Array.size_setIfInBounds]; exact hcs, ?_⟩⟩
  rw [Array.toList_setIfInBounds, Array.toList_setIfInBounds, List.take_set, List.take_set, htk, hsetc]
set_option maxRecDepth 100000 in
set_option maxHeartbeats 2000000 in
theorem put_leaf {w : World} {B p : Nat} {rv sv : Value} {rows : List Row} (hn : NodeAt w B p rv sv rows [] (rows.length : Int)) (hs : Sorted rows) (hr : rows.length ≤ 1000) (hB : B ≤ w.heap.size) (key v : Int) :
    Calls Try.prog 34 #[.pointer (some ⟨p, 0, none⟩), .agg #[.int .i64 key, .int .i64 v]] w fun e w' => e = .returned (.tuple #[.int .i64 ((getL rows key).getD 0), .bool (getL rows key).isSome]) ∧
      ∃ rv', NodeAt w' B p rv' sv (insL rows key v) [] ((insL rows key v).length : Int) ∧ (∀ x, rv'.ownBlock = some x → rv.ownBlock = some x ∨ w.heap.size ≤ x) ∧ Frm (nodeF p rv sv) w w' := by
  have hbx : Below w.heap.size w (w.alloc (.cells #[.int .i64 key, .int .i64 v] 68)) := (Below.refl _ _).alloc (Nat.le_refl _) _
  have hx0 : (w.alloc (.cells #[.int .i64 key, .int .i64 v] 68)).heap[w.heap.size]? = some (.cells #[.int .i64 key, .int .i64 v] 68 (0, 0)) := heap_alloc_new _ _
  have kx : (w.alloc (.cells #[.int .i64 key, .int .i64 v] 68)).cell? ⟨w.heap.size, 0, none⟩ = some (.int .i64 key) := by rw [cell_of_row _ _ 0 _ _ _ hx0]; rfl
  have hnx := hn.below hbx
  have HCUT := Lib.hid (cut_any 45 w.heap.size key hnx.rs hr kx (fun i j hij hj => by
    rcases Nat.eq_or_lt_of_le hij with rfl | hlt
    · exact Int.le_refl _
    · exact Int.le_of_lt (sorted_get hs hlt hj)) (enters_fn Try.func45 (by kernel_rfl) rfl) (fun w2 x hk => put1_any w2 x w.heap.size key hk))
  obtain ⟨n, hnn⟩ : ∃ n, n = rows.length := ⟨_, rfl⟩
  have HNN := Lib.hid hnn
  obtain ⟨c0, c1, c2⟩ := hnx.cells
  obtain ⟨ra, rc, rfl⟩ := hn.rs.len
  obtain ⟨sa, sc, rfl⟩ := hn.ss.len
  have HN := Lib.hid hn
  have HS := Lib.hid hs
  have HBX := Lib.hid hbx
  have HX0 := Lib.hid hx0
  rw [← hnn] at HCUT c0 hr HN c2 ⊢
  clear hn hnx hs hnn kx hx0 hbx
  go_enter Try.func34, Try.ntmps34
  go_wp2_with fail
  refine HCUT.out.mono ?_
  rintro e w1 ⟨⟨t, rfl, ht⟩, hb1⟩
  have hb2 : Below w.heap.size w w1 := HBX.out.trans (hb1.mono HBX.out.size)
  have hx1 := (hb1.block _ (lt_of_block HX0.out)).trans HX0.out
  have k0 : w1.cell? ⟨w.heap.size, 0, none⟩ = some (.int .i64 key) := by rw [cell_of_row _ _ 0 _ _ _ hx1]; rfl
  have k1 : w1.cell? ⟨w.heap.size, 1, none⟩ = some (.int .i64 v) := by rw [cell_of_row _ _ 1 _ _ _ hx1]; rfl
  have hn1 := HN.out.below hb2
  have htn : t ≤ n := by rw [HNN.out]; exact ht.1
  obtain ⟨a0, a1, a2⟩ := hn1.cells
  have a0 : w1.cell? ⟨p, 0, none⟩ = some (.slice ra n rc) := a0
  have HN1 := Lib.hid hn1
  have HT := Lib.hid ht
  have HX1 := Lib.hid hx1
  have HB2 := Lib.hid hb2
  clear hn1 ht hx1 hb2 hb1 c0 c1 c2
  by_cases hlt : t < n
  · have hlt2 : (t : Int) < (n : Int) := by omega
    have hrs := HN1.out.rs
    rw [← HNN.out] at hrs
    obtain ⟨g, cap, hv, hBg, hgl, hnc, hcm⟩ := hrs.shape (by omega)
    cases hv
    have d1 := hrs.cellAt (t * 2) (by omega)
    have d2 := hrs.cellAt (t * 2 + 1) (by omega)
    have f1 := hrs.frozenAt (t * 2)
    have f2 := hrs.frozenAt (t * 2 + 1)
    rw [(rowCells_at rows t (by rw [← HNN.out]; exact hlt)).1] at d1
    rw [(rowCells_at rows t (by rw [← HNN.out]; exact hlt)).2] at d2
    by_cases hk : (rows.getD t default).1 = key
    · have hth := cut_there HS.out HT.out (by rw [← HNN.out]; exact hlt) hk
      have HTH := Lib.hid hth
      rw [hk] at d1
      generalize (rows.getD t default).2 = ov at *
      clear hth hrs hk
      go_wp2_with fail
      go_quiet (fail)
      go_wp2_with fail
      have hbz : Below w1.heap.size w1 (w1.drewN nq) := below_drewN (Below.refl _ _) nq
      have HNZ := Lib.hid (HN1.out.below hbz)
      have HXZ := Lib.hid ((hbz.block _ (lt_of_block HX1.out)).trans HX1.out)
      have HBZ := Lib.hid (HB2.out.trans (hbz.mono HB2.out.size))
      generalize World.drewN w1 nq = wz at *
      clear hbz a0 a1 a2 d1 d2 f1 f2 k0 k1
      have hrs := HNZ.out.rs
      rw [← HNN.out] at hrs
      have d1 := hrs.cellAt (t * 2) (by omega)
      have d2 := hrs.cellAt (t * 2 + 1) (by omega)
      rw [(rowCells_at rows t (by rw [← HNN.out]; exact hlt)).1] at d1
      rw [(rowCells_at rows t (by rw [← HNN.out]; exact hlt)).2] at d2
      obtain ⟨a0, _, _⟩ := HNZ.out.cells
      have k0 : wz.cell? ⟨w.heap.size, 0, none⟩ = some (.int .i64 key) := by rw [cell_of_row _ _ 0 _ _ _ HXZ.out]; rfl
      have k1 : wz.cell? ⟨w.heap.size, 1, none⟩ = some (.int .i64 v) := by rw [cell_of_row _ _ 1 _ _ _ HXZ.out]; rfl
      have z2 : (0 : Int) ≤ (t : Int) := by omega
      go_still_tail 7, (by kernel_rfl)
      change wpList _ _ _ _ _ wz.drew
      have hbd : Below wz.heap.size wz wz.drew := (Below.refl _ _).drew
      have HND := Lib.hid (HNZ.out.below hbd)
      have HBD := Lib.hid (HBZ.out.trans (hbd.mono HBZ.out.size))
      generalize World.drew wz = wd at *
      clear hbd a0 d1 d2 k0 k1 hrs
      have hrs := HND.out.rs
      rw [← HNN.out] at hrs
      have d1 := hrs.cellAt (t * 2) (by omega)
      have d2 := hrs.cellAt (t * 2 + 1) (by omega)
      rw [(rowCells_at rows t (by rw [← HNN.out]; exact hlt)).1] at d1
      rw [(rowCells_at rows t (by rw [← HNN.out]; exact hlt)).2] at d2
      have f1 := hrs.frozenAt (t * 2)
      have f2 := hrs.frozenAt (t * 2 + 1)
      have hfin := HND.out
      rw [HNN.out] at hfin
      have HFIN := Lib.hid (hfin.setRow t (by rw [← HNN.out]; exact hlt) (key, v))
      clear hfin
      go_wp2_with fail
      go_ret2
      refine ⟨?_, .slice (some ⟨g, 0, none⟩) n rc, ?_, fun x hx => .inl hx, ?_⟩
      · rw [HTH.out.2.2]; rfl
      · rw [HTH.out.1 v, List.length_set, ← HNN.out]
        have := HFIN.out
        rw [← HNN.out] at this
        exact this
      · exact ((Frm.of_below HBD.out).setCell (p := ⟨g, t * 2, none⟩) (.inl (.inr (.inl rfl))) _).setCell (p := ⟨g, t * 2 + 1, none⟩) (.inl (.inr (.inl rfl))) _
    · have hnt := cut_not HS.out HT.out (fun e => hk e.2)
      have HNT := Lib.hid hnt
      have hkb : ((rows.getD t default).1 == key) = false := by simpa using hk
      generalize (rows.getD t default).1 = ok at *
      generalize (rows.getD t default).2 = ov at *
      clear hnt hrs hk
      go_wp2_with fail
      go_quiet (fail)
      go_wp2_with fail
      have hbz : Below w1.heap.size w1 (w1.drewN nq) := below_drewN (Below.refl _ _) nq
      have HNZ := Lib.hid (HN1.out.below hbz)
      have HXZ := Lib.hid ((hbz.block _ (lt_of_block HX1.out)).trans HX1.out)
      have HBZ := Lib.hid (HB2.out.trans (hbz.mono HB2.out.size))
      generalize World.drewN w1 nq = wz at *
      have HINS : Hid (∀ w', Below wz.heap.size wz w' → Calls Try.prog 46 #[.slice (some (⟨g, 0, none⟩ : Addr)) n rc, .int .i64 (t : Int), .agg #[.int .i64 key, .int .i64 v]] w' fun e w2 => ∃ v', e = .returned v' ∧ OwnS w2 B 68 2 v' (n + 1) (rowCells (rows.take t ++ (key, v) :: rows.drop t)) ∧ Frm (fun x => (Value.slice (some (⟨g, 0, none⟩ : Addr)) n rc).ownBlock = some x) w' w2 ∧ (∀ r, v'.ownBlock = some r → (Value.slice (some (⟨g, 0, none⟩ : Addr)) n rc).ownBlock = some r ∨ w'.heap.size ≤ r)) := Lib.hid fun w' hb' => by
        have hrs2 := HNZ.out.rs.below hb'
        have := insR_any hrs2 (Nat.le_trans (Nat.le_trans hB HBZ.out.size) hb'.size) t (key, v) (by rw [← HNN.out]; exact htn) (by rw [← HNN.out]; exact hr)
        rw [← HNN.out] at this
        exact this
      have hpr : ∀ x, (Value.slice (some (⟨g, 0, none⟩ : Addr)) n rc).ownBlock = some x → x ≠ p := fun x hx e => by
        obtain ⟨_, _, cur, hc⟩ := HNZ.out.rs.block x hx
        subst e
        rw [HNZ.out.row] at hc
        simp at hc
      have hplt : p < wz.heap.size := lt_of_block HNZ.out.row
      obtain ⟨b0, _, b2⟩ := HNZ.out.cells
      have k0 : wz.cell? ⟨w.heap.size, 0, none⟩ = some (.int .i64 key) := by rw [cell_of_row _ _ 0 _ _ _ HXZ.out]; rfl
      have k1 : wz.cell? ⟨w.heap.size, 1, none⟩ = some (.int .i64 v) := by rw [cell_of_row _ _ 1 _ _ _ HXZ.out]; rfl
      clear a0 a1 a2 d1 d2 f1 f2 hbz
      go_region_with (first | (go_at_call 46; refine (HINS.out _ (Below.refl _ _).drew).mono ?_; rintro e wI ⟨v', rfl, hoI, hfI, hnI⟩; obtain ⟨va', vc', rfl⟩ := hoI.len; have q0 := (hfI.cell (p := ⟨p, 0, none⟩) (by exact hplt) (fun e => hpr _ e rfl)).trans b0; have q1 := free_row ((hfI.block p (by exact hplt) (fun e => hpr _ e rfl)).trans HNZ.out.row) 0))
      all_goals
        have hl' : (rows.take t ++ (key, v) :: rows.drop t).length = n + 1 := by simp [← HNN.out]; omega
        have hoI' : OwnS wI B 68 2 (.slice va' (n + 1) vc') (rows.take t ++ (key, v) :: rows.drop t).length (rowCells (rows.take t ++ (key, v) :: rows.drop t)) := by rw [hl']; exact hoI
        have hsvb : ∀ x, (Value.slice sa ([] : List Nat).length sc).ownBlock = some x → (Value.slice (some (⟨g, 0, none⟩ : Addr)) n rc).ownBlock ≠ some x := fun x hx e => by
          obtain ⟨_, _, c1, h1⟩ := HNZ.out.rs.block x e
          obtain ⟨_, _, c2, h2⟩ := HNZ.out.ss.block x hx
          rw [h1] at h2
          simp at h2
        have HNS := Lib.hid (HNZ.out.setRows (w' := wI) (fun x hx => by
          rcases hx with rfl | hx
          · exact hfI.block _ (by exact hplt) (fun e => hpr _ e rfl)
          · exact hfI.block _ (by exact (HNZ.out.lt x (.inr (.inr hx))).1) (hsvb x hx)) hoI')
        have HFI : Hid (Frm (nodeF p (Value.slice (some (⟨g, 0, none⟩ : Addr)) n rc) (.slice sa ([] : List Nat).length sc)) w (wI.setCell ⟨p, 0, none⟩ (.slice va' (n + 1) vc'))) := Lib.hid ((((Frm.of_below HBZ.out).drew.then hfI fun x hx e => .inr (.inl e))).setCell (p := ⟨p, 0, none⟩) (.inl (.inl rfl)) _)
        have HNI : Hid (∀ r, (Value.slice va' (n + 1) vc').ownBlock = some r → (Value.slice (some (⟨g, 0, none⟩ : Addr)) n rc).ownBlock = some r ∨ w.heap.size ≤ r) := Lib.hid fun r hr => (hnI r hr).imp id fun h => Nat.le_trans HBZ.out.size h
        generalize World.setCell wI _ _ = ws at *
        clear q0 q1 hfI hoI hoI' hnI
        obtain ⟨_, _, e2⟩ := HNS.out.cells
        have f2 := HNS.out.free 2
        have HFIN := Lib.hid (HNS.out.setMany ((n : Int) + 1))
        go_wp2_with fail
        go_ret2
        refine ⟨by rw [HNT.out.2.2]; rfl, .slice va' (n + 1) vc', ?_, HNI.out, HFI.out.setCell (p := ⟨p, 2, none⟩) (.inl (.inl rfl)) _⟩
        rw [HNT.out.1 v, hl']
        exact HFIN.out
  · have hnt := cut_not HS.out HT.out (fun e => hlt (by rw [HNN.out]; exact e.1))
    have HNT := Lib.hid hnt
    have hlt2 : ¬ (t : Int) < (n : Int) := by omega
    clear hnt
    go_wp2_with fail
    go_quiet (fail)
    go_wp2_with fail
    have hbz : Below w1.heap.size w1 (w1.drewN nq) := below_drewN (Below.refl _ _) nq
    have HNZ := Lib.hid (HN1.out.below hbz)
    have HXZ := Lib.hid ((hbz.block _ (lt_of_block HX1.out)).trans HX1.out)
    have HBZ := Lib.hid (HB2.out.trans (hbz.mono HB2.out.size))
    generalize World.drewN w1 nq = wz at *
    have HINS : Hid (∀ w', Below wz.heap.size wz w' → Calls Try.prog 46 #[.slice ra n rc, .int .i64 (t : Int), .agg #[.int .i64 key, .int .i64 v]] w' fun e w2 => ∃ v', e = .returned v' ∧ OwnS w2 B 68 2 v' (n + 1) (rowCells (rows.take t ++ (key, v) :: rows.drop t)) ∧ Frm (fun x => (Value.slice ra n rc).ownBlock = some x) w' w2 ∧ (∀ r, v'.ownBlock = some r → (Value.slice ra n rc).ownBlock = some r ∨ w'.heap.size ≤ r)) := Lib.hid fun w' hb' => by
      have hrs2 := HNZ.out.rs.below hb'
      have := insR_any hrs2 (Nat.le_trans (Nat.le_trans hB HBZ.out.size) hb'.size) t (key, v) (by rw [← HNN.out]; exact htn) (by rw [← HNN.out]; exact hr)
      rw [← HNN.out] at this
      exact this
    have hpr : ∀ x, (Value.slice ra n rc).ownBlock = some x → x ≠ p := fun x hx e => by
      obtain ⟨_, _, cur, hc⟩ := HNZ.out.rs.block x hx
      subst e
      rw [HNZ.out.row] at hc
      simp at hc
    have hplt : p < wz.heap.size := lt_of_block HNZ.out.row
    obtain ⟨b0, _, b2⟩ := HNZ.out.cells
    have k0 : wz.cell? ⟨w.heap.size, 0, none⟩ = some (.int .i64 key) := by rw [cell_of_row _ _ 0 _ _ _ HXZ.out]; rfl
    have k1 : wz.cell? ⟨w.heap.size, 1, none⟩ = some (.int .i64 v) := by rw [cell_of_row _ _ 1 _ _ _ HXZ.out]; rfl
    clear a0 a1 a2 hbz
    go_region_with (first | (go_at_call 46; refine (HINS.out _ (Below.refl _ _).drew).mono ?_; rintro e wI ⟨v', rfl, hoI, hfI, hnI⟩; obtain ⟨va', vc', rfl⟩ := hoI.len; have q0 := (hfI.cell (p := ⟨p, 0, none⟩) (by exact hplt) (fun e => hpr _ e rfl)).trans b0; have q1 := free_row ((hfI.block p (by exact hplt) (fun e => hpr _ e rfl)).trans HNZ.out.row) 0))
    all_goals
      have hl' : (rows.take t ++ (key, v) :: rows.drop t).length = n + 1 := by simp [← HNN.out]; omega
      have hoI' : OwnS wI B 68 2 (.slice va' (n + 1) vc') (rows.take t ++ (key, v) :: rows.drop t).length (rowCells (rows.take t ++ (key, v) :: rows.drop t)) := by rw [hl']; exact hoI
      have hsvb : ∀ x, (Value.slice sa ([] : List Nat).length sc).ownBlock = some x → (Value.slice ra n rc).ownBlock ≠ some x := fun x hx e => by
        obtain ⟨_, _, c1, h1⟩ := HNZ.out.rs.block x e
        obtain ⟨_, _, c2, h2⟩ := HNZ.out.ss.block x hx
        rw [h1] at h2
        simp at h2
      have HNS := Lib.hid (HNZ.out.setRows (w' := wI) (fun x hx => by
        rcases hx with rfl | hx
        · exact hfI.block _ (by exact hplt) (fun e => hpr _ e rfl)
        · exact hfI.block _ (by exact (HNZ.out.lt x (.inr (.inr hx))).1) (hsvb x hx)) hoI')
      have HFI : Hid (Frm (nodeF p (Value.slice ra n rc) (.slice sa ([] : List Nat).length sc)) w (wI.setCell ⟨p, 0, none⟩ (.slice va' (n + 1) vc'))) := Lib.hid ((((Frm.of_below HBZ.out).drew.then hfI fun x hx e => .inr (.inl e))).setCell (p := ⟨p, 0, none⟩) (.inl (.inl rfl)) _)
      have HNI : Hid (∀ r, (Value.slice va' (n + 1) vc').ownBlock = some r → (Value.slice ra n rc).ownBlock = some r ∨ w.heap.size ≤ r) := Lib.hid fun r hr => (hnI r hr).imp id fun h => Nat.le_trans HBZ.out.size h
      generalize World.setCell wI _ _ = ws at *
      clear q0 q1 hfI hoI hoI' hnI
      obtain ⟨_, _, e2⟩ := HNS.out.cells
      have f2 := HNS.out.free 2
      have HFIN := Lib.hid (HNS.out.setMany ((n : Int) + 1))
      go_wp2_with fail
      go_ret2
      refine ⟨by rw [HNT.out.2.2]; rfl, .slice va' (n + 1) vc', ?_, HNI.out, HFI.out.setCell (p := ⟨p, 2, none⟩) (.inl (.inl rfl)) _⟩
      rw [HNT.out.1 v, hl']
      exact HFIN.out
end Go.Proofs.Ytdgapagpmdfndaa
