/- LAYER 13 (tabula): drop, from a part with rows. -/
import Derived.Test.YtdgapagpmdfndaaTabO
namespace Go.Proofs.Ytdgapagpmdfndaa
open Go.RowKit
set_option linter.unusedVariables false
set_option maxRecDepth 100000 in
set_option maxHeartbeats 2000000 in
theorem drop_leaf {w : World} {B p : Nat} {rv sv : Value} {rows : List Row} (hn : NodeAt w B p rv sv rows [] (rows.length : Int)) (hs : Sorted rows) (hr : rows.length ≤ 1000) (hB : B ≤ w.heap.size) (key : Int) :
    Calls Try.prog 38 #[.pointer (some ⟨p, 0, none⟩), .int .i64 key] w fun e w' => e = .returned (.tuple #[.int .i64 ((getL rows key).getD 0), .bool (getL rows key).isSome]) ∧
      ∃ rv', NodeAt w' B p rv' sv (delL rows key) [] ((delL rows key).length : Int) ∧ (∀ x, rv'.ownBlock = some x → rv.ownBlock = some x) ∧ Frm (nodeF p rv sv) w w' := by
  have hbx : Below w.heap.size w (w.alloc (.cells #[.int .i64 key] 3)) := (Below.refl _ _).alloc (Nat.le_refl _) _
  have hx0 : (w.alloc (.cells #[.int .i64 key] 3)).heap[w.heap.size]? = some (.cells #[.int .i64 key] 3 (0, 0)) := heap_alloc_new _ _
  have kx : (w.alloc (.cells #[.int .i64 key] 3)).cell? ⟨w.heap.size, 0, none⟩ = some (.int .i64 key) := by rw [cell_of_row _ _ 0 _ _ _ hx0]; rfl
  have hnx := hn.below hbx
  have HCUT := Lib.hid (cut_any 51 w.heap.size key hnx.rs hr kx (fun i j hij hj => by
    rcases Nat.eq_or_lt_of_le hij with rfl | hlt
    · exact Int.le_refl _
    · exact Int.le_of_lt (sorted_get hs hlt hj)) (enters_fn Try.func51 (by kernel_rfl) rfl) (fun w2 x hk => drop1_any w2 x w.heap.size key hk))
  obtain ⟨n, hnn⟩ : ∃ n, n = rows.length := ⟨_, rfl⟩
  have HNN := Lib.hid hnn
  obtain ⟨c0, c1, c2⟩ := hnx.cells
  obtain ⟨ra, rc, rfl⟩ := hn.rs.len
  obtain ⟨sa, sc, rfl⟩ := hn.ss.len
  have HN := Lib.hid hn
  have HS := Lib.hid hs
  have HBX := Lib.hid hbx
  have HX0 := Lib.hid hx0
  rw [← hnn] at HCUT c0 hr HN c2 ⊢
  clear hn hnx hs hnn kx hx0 hbx
  go_enter Try.func38, Try.ntmps38
  go_wp2_with fail
  refine HCUT.out.mono ?_
  rintro e w1 ⟨⟨t, rfl, ht⟩, hb1⟩
  have hb2 : Below w.heap.size w w1 := HBX.out.trans (hb1.mono HBX.out.size)
  have hx1 := (hb1.block _ (lt_of_block HX0.out)).trans HX0.out
  have k0 : w1.cell? ⟨w.heap.size, 0, none⟩ = some (.int .i64 key) := by rw [cell_of_row _ _ 0 _ _ _ hx1]; rfl
  have hn1 := HN.out.below hb2
  have htn : t ≤ n := by rw [HNN.out]; exact ht.1
  obtain ⟨a0, a1, a2⟩ := hn1.cells
  have a0 : w1.cell? ⟨p, 0, none⟩ = some (.slice ra n rc) := a0
  have HN1 := Lib.hid hn1
  have HT := Lib.hid ht
  have HX1 := Lib.hid hx1
  have HB2 := Lib.hid hb2
  clear hn1 ht hx1 hb2 hb1 c0 c1 c2
  by_cases hlt : t < n
  · have hlt2 : (t : Int) < (n : Int) := by omega
    have hne2 : ((t : Int) == (n : Int)) = false := by simp; omega
    have hrs := HN1.out.rs
    rw [← HNN.out] at hrs
    obtain ⟨g, cap, hv, hBg, hgl, hnc, hcm⟩ := hrs.shape (by omega)
    cases hv
    have d1 := hrs.cellAt (t * 2) (by omega)
    have d2 := hrs.cellAt (t * 2 + 1) (by omega)
    rw [(rowCells_at rows t (by rw [← HNN.out]; exact hlt)).1] at d1
    rw [(rowCells_at rows t (by rw [← HNN.out]; exact hlt)).2] at d2
    by_cases hk : (rows.getD t default).1 = key
    · have hth := cut_there HS.out HT.out (by rw [← HNN.out]; exact hlt) hk
      have HTH := Lib.hid hth
      rw [hk] at d1
      generalize (rows.getD t default).2 = ov at *
      clear hth hrs hk
      go_wp2_with fail
      go_quiet (fail)
      go_wp2_with fail
      have hbz : Below w1.heap.size w1 (w1.drewN nq) := below_drewN (Below.refl _ _) nq
      have HNZ := Lib.hid (HN1.out.below hbz)
      have HBZ := Lib.hid (HB2.out.trans (hbz.mono HB2.out.size))
      generalize World.drewN w1 nq = wz at *
      clear hbz a0 a1 a2 d1 d2 k0
      have hrs := HNZ.out.rs
      have HREM := Lib.hid (remR_any (n := n - 1) hrs (by have := HNN.out; omega) t (by omega) (by omega))
      have hpr : ∀ x, (Value.slice (some (⟨g, 0, none⟩ : Addr)) n rc).ownBlock = some x → x ≠ p := fun x hx e => by
        obtain ⟨_, _, cur, hc⟩ := HNZ.out.rs.block x hx
        subst e
        rw [HNZ.out.row] at hc
        simp at hc
      have hplt : p < wz.heap.size := lt_of_block HNZ.out.row
      obtain ⟨b0, _, b2⟩ := HNZ.out.cells
      clear hrs
      refine HREM.out.mono ?_
      rintro e wI ⟨v', rfl, hoI, hfI, hnI⟩
      obtain ⟨va', vc', rfl⟩ := hoI.len
      have q0 := (hfI.cell (p := ⟨p, 0, none⟩) (by exact hplt) (fun e => hpr _ e rfl)).trans b0
      have q1 := free_row ((hfI.block p (by exact hplt) (fun e => hpr _ e rfl)).trans HNZ.out.row) 0
      have q2 := (hfI.cell (p := ⟨p, 2, none⟩) (by exact hplt) (fun e => hpr _ e rfl)).trans b2
      have q3 := free_row ((hfI.block p (by exact hplt) (fun e => hpr _ e rfl)).trans HNZ.out.row) 2
      have hl' : (rows.take t ++ rows.drop (t + 1)).length = n - 1 := by
        have := HNN.out
        rw [List.length_append, List.length_take, List.length_drop]; omega
      have hoI' : OwnS wI B 68 2 (.slice va' (n - 1) vc') (rows.take t ++ rows.drop (t + 1)).length (rowCells (rows.take t ++ rows.drop (t + 1))) := by rw [hl']; exact hoI
      have hsvb : ∀ x, (Value.slice sa ([] : List Nat).length sc).ownBlock = some x → (Value.slice (some (⟨g, 0, none⟩ : Addr)) n rc).ownBlock ≠ some x := fun x hx e => by
        obtain ⟨_, _, c1, h1⟩ := HNZ.out.rs.block x e
        obtain ⟨_, _, c2, h2⟩ := HNZ.out.ss.block x hx
        rw [h1] at h2
        simp at h2
      have HNS := Lib.hid (HNZ.out.setRows (w' := wI) (fun x hx => by
        rcases hx with rfl | hx
        · exact hfI.block _ (by exact hplt) (fun e => hpr _ e rfl)
        · exact hfI.block _ (by exact (HNZ.out.lt x (.inr (.inr hx))).1) (hsvb x hx)) hoI')
      have HFI : Hid (Frm (nodeF p (Value.slice (some (⟨g, 0, none⟩ : Addr)) n rc) (.slice sa ([] : List Nat).length sc)) w (wI.setCell ⟨p, 0, none⟩ (.slice va' (n - 1) vc'))) := Lib.hid ((((Frm.of_below HBZ.out).then hfI fun x hx e => .inr (.inl e))).setCell (p := ⟨p, 0, none⟩) (.inl (.inl rfl)) _)
      have HNI : Hid (∀ r, (Value.slice va' (n - 1) vc').ownBlock = some r → (Value.slice (some (⟨g, 0, none⟩ : Addr)) n rc).ownBlock = some r) := Lib.hid hnI
      have HHL := Lib.hid hl'
      clear hfI hoI hoI' hnI hsvb hl'
      have HFIN := Lib.hid (HNS.out.setMany ((n : Int) - 1))
      go_wp2_with fail
      go_ret2
      refine ⟨by rw [HTH.out.2.2]; rfl, .slice va' (n - 1) vc', ?_, HNI.out, HFI.out.setCell (p := ⟨p, 2, none⟩) (.inl (.inl rfl)) _⟩
      rw [HTH.out.2.1, HHL.out]
      have : ((n - 1 : Nat) : Int) = (n : Int) - 1 := by omega
      rw [this]
      exact HFIN.out
    · have hnt := cut_not HS.out HT.out (fun e => hk e.2)
      have HNT := Lib.hid hnt
      have hkb : ((rows.getD t default).1 != key) = true := by simpa using hk
      generalize (rows.getD t default).1 = ok at *
      generalize (rows.getD t default).2 = ov at *
      clear hnt hrs hk
      go_wp2_with fail
      go_quiet (fail)
      go_wp2_with fail
      have hbz : Below w1.heap.size w1 (w1.drewN nq) := below_drewN (Below.refl _ _) nq
      go_ret2
      rw [HNT.out.2.1, HNT.out.2.2, ← HNN.out]
      exact ⟨rfl, _, HN1.out.below hbz, fun x hx => hx, Frm.of_below (HB2.out.trans (hbz.mono HB2.out.size))⟩
  · have hnt := cut_not HS.out HT.out (fun e => hlt (by rw [HNN.out]; exact e.1))
    have HNT := Lib.hid hnt
    obtain rfl : t = n := by omega
    clear hnt
    go_wp2_with fail
    go_quiet (fail)
    go_wp2_with fail
    have hbz : Below w1.heap.size w1 (w1.drewN nq) := below_drewN (Below.refl _ _) nq
    go_ret2
    rw [HNT.out.2.1, HNT.out.2.2, ← HNN.out]
    exact ⟨rfl, _, HN1.out.below hbz, fun x hx => hx, Frm.of_below (HB2.out.trans (hbz.mono HB2.out.size))⟩
end Go.Proofs.Ytdgapagpmdfndaa
