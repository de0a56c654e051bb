/- LAYER 13 (tabula): split. -/
import Derived.Test.YtdgapagpmdfndaaTabD
namespace Go.Proofs.Ytdgapagpmdfndaa
open Go.RowKit
set_option linter.unusedVariables false
theorem half_any (n : Int) (w : World) : Calls Try.prog 47 #[.int .i64 n] w fun e w' => e = .returned (.bool (decide (8 < n))) ∧ w' = w := by
  go_enter Try.func47, Try.ntmps47
  go_wp2_with fail
  go_ret
  exact ⟨rfl, rfl⟩
/-- Nothing to split. -/
theorem split_no {w : World} {B p : Nat} {rv sv : Value} {rows : List Row} {subs : List Nat} {m : Int} (hn : NodeAt w B p rv sv rows subs m) (hr : rows.length ≤ 8) (hs : subs.length ≤ 8) :
    Calls Try.prog 35 #[.pointer (some ⟨p, 0, none⟩)] w fun e w' => e = .returned (.pointer none) ∧ w' = w := by
  obtain ⟨c0, c1, c2⟩ := hn.cells
  obtain ⟨ra, rc, rfl⟩ := hn.rs.len
  obtain ⟨sa, sc, rfl⟩ := hn.ss.len
  generalize rows.length = r at *
  generalize subs.length = s at *
  have h1 : decide ((8 : Int) < (r : Int)) = false := by simp; omega
  have h2 : decide ((8 : Int) < (s : Int)) = false := by simp; omega
  have HA := Lib.hid (half_any (r : Int) w)
  have HB := Lib.hid (half_any (s : Int) w)
  rw [h1] at HA
  rw [h2] at HB
  clear hn h1 h2
  go_enter Try.func35, Try.ntmps35
  go_wp2_with fail
  refine HA.out.mono ?_
  rintro e w1 ⟨rfl, rfl⟩
  go_wp2_with fail
  refine HB.out.mono ?_
  rintro e w1 ⟨rfl, rfl⟩
  go_wp2_with fail
  go_ret
  exact ⟨rfl, rfl⟩
/-- Another rows' slice laid into a part. -/
theorem NodeAt.setRows {w : World} {B p : Nat} {rv sv : Value} {rows : List Row} {subs : List Nat} {m : Int} (h : NodeAt w B p rv sv rows subs m) {w' : World} {rv' : Value} {rows' : List Row} (hf : ∀ x, x = p ∨ sv.ownBlock = some x → w'.heap[x]? = w.heap[x]?) (hr : OwnS w' B 68 2 rv' rows'.length (rowCells rows')) :
    NodeAt (w'.setCell ⟨p, 0, none⟩ rv') B p rv' sv rows' subs m := by
  have hrow : w'.heap[p]? = some (.cells #[rv, sv, .int .i64 m] 59 (0, 0)) := (hf p (.inl rfl)).trans h.row
  have hrs : ∀ r, rv'.ownBlock = some r → r ≠ p := fun r hr' e => by
    obtain ⟨_, _, cur, hc⟩ := hr.block r hr'
    subst e
    rw [hrow] at hc
    simp at hc
  have hss : ∀ r, sv.ownBlock = some r → r ≠ p := fun r hr' e => by
    obtain ⟨_, _, cur, hc⟩ := h.ss.block r hr'
    subst e
    rw [h.row] at hc
    simp at hc
  refine ⟨?_, hr.keep fun r hr' => Below.heap_setCell _ _ _ _ (hrs r hr'), h.ss.keep fun r hr' => (Below.heap_setCell _ _ _ _ (hss r hr')).trans (hf r (.inr hr')), h.bp⟩
  rw [heap_setCell_same _ _ _ _ _ _ hrow]
  rfl
/-- Another slice of parts laid into a part. -/
theorem NodeAt.setSubs {w : World} {B p : Nat} {rv sv : Value} {rows : List Row} {subs : List Nat} {m : Int} (h : NodeAt w B p rv sv rows subs m) {w' : World} {sv' : Value} {subs' : List Nat} (hf : ∀ x, x = p ∨ rv.ownBlock = some x → w'.heap[x]? = w.heap[x]?) (hr : OwnS w' B 55 1 sv' subs'.length (ptrCells subs')) :
    NodeAt (w'.setCell ⟨p, 1, none⟩ sv') B p rv sv' rows subs' m := by
  have hrow : w'.heap[p]? = some (.cells #[rv, sv, .int .i64 m] 59 (0, 0)) := (hf p (.inl rfl)).trans h.row
  have hrs : ∀ r, sv'.ownBlock = some r → r ≠ p := fun r hr' e => by
    obtain ⟨_, _, cur, hc⟩ := hr.block r hr'
    subst e
    rw [hrow] at hc
    simp at hc
  have hss : ∀ r, rv.ownBlock = some r → r ≠ p := fun r hr' e => by
    obtain ⟨_, _, cur, hc⟩ := h.rs.block r hr'
    subst e
    rw [h.row] at hc
    simp at hc
  refine ⟨?_, h.rs.keep fun r hr' => (Below.heap_setCell _ _ _ _ (hss r hr')).trans (hf r (.inr hr')), hr.keep fun r hr' => Below.heap_setCell _ _ _ _ (hrs r hr'), h.bp⟩
  rw [heap_setCell_same _ _ _ _ _ _ hrow]
  rfl
theorem sum_nil : sumN [] = 0 := rfl
set_option maxRecDepth 100000 in
set_option maxHeartbeats 2000000 in
theorem split_rows {w : World} {B p : Nat} {rv sv : Value} {rows : List Row} {m : Int} (hn : NodeAt w B p rv sv rows [] m) (h8 : 8 < rows.length) (hr : rows.length ≤ 1000) (hB : B ≤ w.heap.size) :
    Calls Try.prog 35 #[.pointer (some ⟨p, 0, none⟩)] w fun e w' => ∃ q rv' rvq, e = .returned (.pointer (some ⟨q, 0, none⟩)) ∧ NodeAt w' B p rv' sv (rows.take (rows.length / 2)) [] ((rows.length / 2 : Nat) : Int) ∧ NodeAt w' B q rvq (.slice none 0 0) (rows.drop (rows.length / 2)) [] ((rows.length - rows.length / 2 : Nat) : Int) ∧
      (∀ x, rv'.ownBlock = some x → rv.ownBlock = some x) ∧ (∀ x, nodeF q rvq (.slice none 0 0) x → w.heap.size ≤ x) ∧ Frm (fun x => x = p) w w' := by
  obtain ⟨i0, hk1, hk2, hk3, hk4⟩ := info_parts infoRow
  obtain ⟨c0, c1, c2⟩ := hn.cells
  obtain ⟨n, hnn⟩ : ∃ n, n = rows.length := ⟨_, rfl⟩
  have HNN := Lib.hid hnn
  have hrs := hn.rs
  rw [← hnn] at hrs h8 hr ⊢
  obtain ⟨g, rc, rfl, hBg, hg, hnc, hcm⟩ := hrs.shape (by omega)
  obtain ⟨sa, sc, rfl⟩ := hn.ss.len
  have HN := Lib.hid hn
  have HO := Lib.hid hrs
  have f0 := hn.free 0
  have hplt : p < w.heap.size := lt_of_block hn.row
  have h1 : decide ((8 : Int) < (n : Int)) = true := by simp; omega
  have HA := Lib.hid (half_any (n : Int) w)
  rw [h1] at HA
  obtain ⟨k, hk⟩ : ∃ k, k = n / 2 := ⟨_, rfl⟩
  have hkk : (n : Int) / 2 = (k : Int) := by omega
  have hkn : k ≤ n := by omega
  have HKD := Lib.hid hk
  rw [← hk]
  clear hn hrs h1 hnn hk
  have y2 : (0 : Int) ≤ (k : Int) := by omega
  have y4 : (k : Int) ≤ (rc : Int) := by omega
  have y5 : (k : Int) ≤ (n : Int) := by omega
  go_enter Try.func35, Try.ntmps35
  go_wp2_with fail
  refine HA.out.mono ?_
  rintro e w1 ⟨rfl, rfl⟩
  go_wp2_with (at_builtin; refine wpList_append_any _ rfl _ _ 56 rfl w1.heap.size 68 i0 (.agg #[.int .i64 0, .int .i64 0]) 2 16 Try.underlying56 hk1 hk2 hk3 hk4 rfl (by decide) _ 0 [] rfl (OwnS.nil _ _ _ _) _ (n - k) _ ((rowCells rows).drop (k * 2)) rfl ?c0 ?c1 ?c2 ?c3 ?c4 ?c5 ?c6 ?_)
  case c0 => rw [List.length_drop, rowCells_len, ← HNN.out]; omega
  case c1 => intro h; cases h
  case c2 =>
    intro ad had j u hu
    cases had
    have hadd : (⟨g, k * 2, none⟩ : Addr).add j = ⟨g, k * 2 + j, none⟩ := by
      unfold Addr.add
      split
      · rename_i h; have : j = 0 := by simpa using h
        subst this; rfl
      · rfl
    have hj := (List.getElem?_eq_some_iff.1 hu).1
    rw [List.length_drop, rowCells_len, ← HNN.out] at hj
    rw [hadd, HO.out.cellAt (k * 2 + j) (by omega)]
    rw [List.getElem?_drop] at hu
    exact hu
  case c3 => intro u hu; exact rowCells_one rows u (List.mem_of_mem_drop hu)
  case c4 => unfold maxLen; omega
  case c5 => omega
  case c6 => exact Nat.le_refl _
  intro v1 wa hown1 hgrow1 hnew1
  have hFa : Frm (fun x => x = p) w1 wa := (Frm.refl _ w1).grown hgrow1 fun r hr => by cases hr
  obtain ⟨g2, cap2, rfl, hg2, hg2l, _⟩ := hown1.shape (by omega)
  have hba : Below w1.heap.size w1 wa := (Below.refl _ _).grown hgrow1 (Nat.le_refl _) fun r hr => by cases hr
  obtain ⟨ws, hws⟩ : ∃ ws, ws = wa.setCell ⟨p, 0, none⟩ (.slice (some ⟨g, 0, none⟩) k k) := ⟨_, rfl⟩
  have hsz : ws.heap.size = wa.heap.size := by rw [hws]; simp [World.setCell]
  obtain ⟨wq, hwq⟩ : ∃ wq, wq = ws.alloc (.cells #[.slice (some ⟨g2, 0, none⟩) (n - k) cap2, .slice none 0 0, .int .i64 0] 59) := ⟨_, rfl⟩
  have hbq : Below ws.heap.size ws wq := by rw [hwq]; exact (Below.refl _ _).alloc (Nat.le_refl _) _
  have hq0 : wq.heap[wa.heap.size]? = some (.cells #[.slice (some ⟨g2, 0, none⟩) (n - k) cap2, .slice none 0 0, .int .i64 0] 59 (0, 0)) := by rw [hwq, ← hsz]; exact heap_alloc_new _ _
  have hcut := (HO.out.below hba).cut k k hkn (Nat.le_refl _) (by omega)
  rw [rowCells_take] at hcut
  have hkl : (rows.take k).length = k := by rw [List.length_take, ← HNN.out]; omega
  have hdl : (rows.drop k).length = n - k := by rw [List.length_drop, ← HNN.out]
  have hNP := HN.out.setRows (w' := wa) (rv' := .slice (some ⟨g, 0, none⟩) k k) (rows' := rows.take k) (fun x hx => hba.block x (by
    rcases hx with rfl | hx
    · exact hplt
    · exact (HN.out.lt x (.inr (.inr hx))).1)) (by rw [hkl]; exact hcut)
  rw [← hws] at hNP
  have hqo : OwnS wq w1.heap.size 68 2 (.slice (some ⟨g2, 0, none⟩) (n - k) cap2) (n - k) ((rowCells rows).drop (k * 2)) := by
    refine OwnS.below (w := ws) ?_ hbq
    rw [hws]
    refine hown1.keep fun r hr => Below.heap_setCell _ _ _ _ fun e => ?_
    have := (hown1.block r hr).1
    dsimp only at e
    omega
  have hqp : wa.heap.size ≠ p := by have := hba.size; omega
  have hNQ : NodeAt wq B wa.heap.size (.slice (some ⟨g2, 0, none⟩) (n - k) cap2) (.slice none 0 0) (rows.drop k) [] 0 := by
    refine ⟨hq0, ?_, OwnS.nil _ _ _ _, Nat.le_trans hB hba.size⟩
    rw [hdl, ← rowCells_drop]
    exact hqo.mono hB
  have hFb : Frm (fun x => x = p) w1 wq := by
    rw [hwq, hws]
    exact ((Frm.of_below (F := fun x => x = p) hba).setCell (p := ⟨p, 0, none⟩) (.inl rfl) _).alloc _
  have HNP := Lib.hid (hNP.below hbq)
  have HNQ := Lib.hid hNQ
  have HFB := Lib.hid hFb
  have p0 : wa.cell? ⟨p, 0, none⟩ = some (.slice (some ⟨g, 0, none⟩) n rc) := (hba.cell (by exact hplt)).trans c0
  have p1 : wa.frozen? ⟨p, 0, none⟩ = false := by
    have := HN.out.row
    simp [World.frozen?, hba.block p hplt, this]
  have hpa : p < wa.heap.size := Nat.lt_of_lt_of_le hplt hba.size
  have HWQ := Lib.hid (show wq = (wa.setCell ⟨p, 0, none⟩ (.slice (some ⟨g, 0, none⟩) k k)).alloc (.cells #[.slice (some ⟨g2, 0, none⟩) (n - k) cap2, .slice none 0 0, .int .i64 0] 59) by rw [hwq, hws])
  have HG2 := Lib.hid hg2
  have HBA := Lib.hid hba
  clear hNP hNQ hFb hFa hown1 hgrow1 hnew1 hba hbq hq0 hqo hcut hwq hws hsz c2 HO hg2
  go_wp2_with fail
  rw [← HWQ.out]
  refine (count_any HNP.out [] rfl (fun i hi => by cases hi) (by rw [hkl]; omega) (by simp) (fun x hx => by cases hx)).mono ?_
  rw [hkl]
  rintro e w2 ⟨⟨u, rfl⟩, HP2, hf2⟩
  have HQ2 := Lib.hid (HNQ.out.keep fun x hx => hf2.block x (HNQ.out.lt x hx).1 fun e => by
    rcases hx with h1 | h1 | h1
    · omega
    · have : g2 = x := by simpa [Value.ownBlock] using h1
      have := HG2.out
      omega
    · cases h1)
  have HP2 := Lib.hid HP2
  have HF2 := Lib.hid (HFB.out.trans hf2)
  clear hf2 HNP HNQ HFB
  go_wp2_with fail
  refine (count_any HQ2.out [] rfl (fun i hi => by cases hi) (by rw [hdl]; omega) (by simp) (fun x hx => by cases hx)).mono ?_
  rw [hdl]
  rintro e w3 ⟨⟨u2, rfl⟩, HQ3, hf3⟩
  have hpl : ∀ x, nodeF p (.slice (some ⟨g, 0, none⟩) k k) (.slice sa ([] : List Nat).length sc) x → x ≠ wa.heap.size := fun x hx e => by
    have h2 : x < w1.heap.size := by
      rcases hx with h1 | h1 | h1
      · omega
      · have : g = x := by simpa [Value.ownBlock] using h1
        omega
      · exact (HN.out.lt x (.inr (.inr h1))).1
    have := HBA.out.size
    omega
  have HP3 := Lib.hid (HP2.out.keep fun x hx => hf3.block x (HP2.out.lt x hx).1 (hpl x hx))
  have HQ3 := Lib.hid HQ3
  have HF3 := Lib.hid (HF2.out.then hf3 fun x hx e => by have := HBA.out.size; omega)
  go_wp2_with fail
  go_ret
  refine ⟨wa.heap.size, _, _, rfl, HP3.out, HQ3.out, fun x hx => hx, fun x hx => ?_, HF3.out⟩
  rcases hx with rfl | h1 | h1
  · exact HBA.out.size
  · have : g2 = x := by simpa [Value.ownBlock] using h1
    have := HG2.out
    omega
  · cases h1
set_option maxRecDepth 100000 in
set_option maxHeartbeats 2000000 in
theorem split_subs {w : World} {B p : Nat} {rv sv : Value} {subs : List Nat} {m : Int} (hn : NodeAt w B p rv sv [] subs m) (h8 : 8 < subs.length) (hr : subs.length ≤ 1000) (hB : B ≤ w.heap.size) (ms : List Nat) (hl : ms.length = subs.length)
    (hm : ∀ i, i < subs.length → w.cell? ⟨subs.getD i default, 2, none⟩ = some (.int .i64 (ms.getD i default : Nat)) ∧ subs.getD i default ≠ p) (hb : ∀ x ∈ ms, x ≤ 1000000000) :
    Calls Try.prog 35 #[.pointer (some ⟨p, 0, none⟩)] w fun e w' => ∃ q sv' svq, e = .returned (.pointer (some ⟨q, 0, none⟩)) ∧ NodeAt w' B p rv sv' [] (subs.take (subs.length / 2)) ((sumN (ms.take (subs.length / 2)) : Nat) : Int) ∧ NodeAt w' B q (.slice none 0 0) svq [] (subs.drop (subs.length / 2)) ((sumN (ms.drop (subs.length / 2)) : Nat) : Int) ∧
      (∀ x, sv'.ownBlock = some x → sv.ownBlock = some x) ∧ (∀ x, nodeF q (.slice none 0 0) svq x → w.heap.size ≤ x) ∧ Frm (fun x => x = p) w w' := by
  obtain ⟨i0, hk1, hk2, hk3, hk4⟩ := info_parts infoPtr
  obtain ⟨c0, c1, c2⟩ := hn.cells
  obtain ⟨n, hnn⟩ : ∃ n, n = subs.length := ⟨_, rfl⟩
  have HNN := Lib.hid hnn
  have hrs := hn.ss
  rw [← hnn] at hrs h8 hr hl hm ⊢
  obtain ⟨g, rc, rfl, hBg, hg, hnc, hcm⟩ := hrs.shape (by omega)
  obtain ⟨sa, sc, rfl⟩ := hn.rs.len
  have HM := Lib.hid hm
  have HMB := Lib.hid hb
  have HML := Lib.hid hl
  clear hm hb hl
  have HN := Lib.hid hn
  have HO := Lib.hid hrs
  have f0 := hn.free 1
  have hplt : p < w.heap.size := lt_of_block hn.row
  have h1 : decide ((8 : Int) < (n : Int)) = true := by simp; omega
  have HA := Lib.hid (half_any (n : Int) w)
  rw [h1] at HA
  have HA0 := Lib.hid (half_any (0 : Int) w)
  rw [show decide ((8 : Int) < 0) = false from rfl] at HA0
  obtain ⟨k, hk⟩ : ∃ k, k = n / 2 := ⟨_, rfl⟩
  have hkk : (n : Int) / 2 = (k : Int) := by omega
  have hkn : k ≤ n := by omega
  have HKD := Lib.hid hk
  rw [← hk]
  clear hn hrs h1 hnn hk
  have y2 : (0 : Int) ≤ (k : Int) := by omega
  have y4 : (k : Int) ≤ (rc : Int) := by omega
  have y5 : (k : Int) ≤ (n : Int) := by omega
  go_enter Try.func35, Try.ntmps35
  go_wp2_with fail
  refine HA0.out.mono ?_
  rintro e w1 ⟨rfl, rfl⟩
  go_wp2_with fail
  refine HA.out.mono ?_
  rintro e w1 ⟨rfl, rfl⟩
  go_wp2_with (at_builtin; refine wpList_append_any _ rfl _ _ 57 rfl w1.heap.size 55 i0 (.pointer none) 1 8 Try.underlying57 hk1 hk2 hk3 hk4 rfl (by decide) _ 0 [] rfl (OwnS.nil _ _ _ _) _ (n - k) _ ((ptrCells subs).drop k) rfl ?c0 ?c1 ?c2 ?c3 ?c4 ?c5 ?c6 ?_)
  case c0 => rw [List.length_drop, ptrCells_len, ← HNN.out]; omega
  case c1 => intro h; cases h
  case c2 =>
    intro ad had j u hu
    cases had
    have hadd : (⟨g, k, none⟩ : Addr).add j = ⟨g, k + j, none⟩ := by
      unfold Addr.add
      split
      · rename_i h; have : j = 0 := by simpa using h
        subst this; rfl
      · rfl
    have hj := (List.getElem?_eq_some_iff.1 hu).1
    rw [List.length_drop, ptrCells_len, ← HNN.out] at hj
    rw [hadd, HO.out.cellAt (k + j) (by omega)]
    rw [List.getElem?_drop] at hu
    exact hu
  case c3 => intro u hu; exact ptrCells_one subs u (List.mem_of_mem_drop hu)
  case c4 => unfold maxLen; omega
  case c5 => omega
  case c6 => exact Nat.le_refl _
  intro v1 wa hown1 hgrow1 hnew1
  have hFa : Frm (fun x => x = p) w1 wa := (Frm.refl _ w1).grown hgrow1 fun r hr => by cases hr
  obtain ⟨g2, cap2, rfl, hg2, hg2l, _⟩ := hown1.shape (by omega)
  have hba : Below w1.heap.size w1 wa := (Below.refl _ _).grown hgrow1 (Nat.le_refl _) fun r hr => by cases hr
  obtain ⟨ws, hws⟩ : ∃ ws, ws = wa.setCell ⟨p, 1, none⟩ (.slice (some ⟨g, 0, none⟩) k k) := ⟨_, rfl⟩
  have hsz : ws.heap.size = wa.heap.size := by rw [hws]; simp [World.setCell]
  obtain ⟨wq, hwq⟩ : ∃ wq, wq = ws.alloc (.cells #[.slice none 0 0, .slice (some ⟨g2, 0, none⟩) (n - k) cap2, .int .i64 0] 59) := ⟨_, rfl⟩
  have hbq : Below ws.heap.size ws wq := by rw [hwq]; exact (Below.refl _ _).alloc (Nat.le_refl _) _
  have hq0 : wq.heap[wa.heap.size]? = some (.cells #[.slice none 0 0, .slice (some ⟨g2, 0, none⟩) (n - k) cap2, .int .i64 0] 59 (0, 0)) := by rw [hwq, ← hsz]; exact heap_alloc_new _ _
  have hcut := (HO.out.below hba).cut k k hkn (Nat.le_refl _) (by omega)
  rw [Nat.mul_one, show (ptrCells subs).take k = ptrCells (subs.take k) by simp [ptrCells, List.map_take]] at hcut
  have hkl : (subs.take k).length = k := by rw [List.length_take, ← HNN.out]; omega
  have hdl : (subs.drop k).length = n - k := by rw [List.length_drop, ← HNN.out]
  have hNP := HN.out.setSubs (w' := wa) (sv' := .slice (some ⟨g, 0, none⟩) k k) (subs' := subs.take k) (fun x hx => hba.block x (by
    rcases hx with rfl | hx
    · exact hplt
    · exact (HN.out.lt x (.inr (.inl hx))).1)) (by rw [hkl]; exact hcut)
  rw [← hws] at hNP
  have hqo : OwnS wq w1.heap.size 55 1 (.slice (some ⟨g2, 0, none⟩) (n - k) cap2) (n - k) ((ptrCells subs).drop k) := by
    refine OwnS.below (w := ws) ?_ hbq
    rw [hws]
    refine hown1.keep fun r hr => Below.heap_setCell _ _ _ _ fun e => ?_
    have := (hown1.block r hr).1
    dsimp only at e
    omega
  have hqp : wa.heap.size ≠ p := by have := hba.size; omega
  have hNQ : NodeAt wq B wa.heap.size (.slice none 0 0) (.slice (some ⟨g2, 0, none⟩) (n - k) cap2) [] (subs.drop k) 0 := by
    refine ⟨hq0, OwnS.nil _ _ _ _, ?_, Nat.le_trans hB hba.size⟩
    rw [hdl, show ptrCells (subs.drop k) = (ptrCells subs).drop k by simp [ptrCells, List.map_drop]]
    exact hqo.mono hB
  have hFb : Frm (fun x => x = p) w1 wq := by
    rw [hwq, hws]
    exact ((Frm.of_below (F := fun x => x = p) hba).setCell (p := ⟨p, 1, none⟩) (.inl rfl) _).alloc _
  have HNP := Lib.hid (hNP.below hbq)
  have HNQ := Lib.hid hNQ
  have HFB := Lib.hid hFb
  have p0 : wa.cell? ⟨p, 1, none⟩ = some (.slice (some ⟨g, 0, none⟩) n rc) := (hba.cell (by exact hplt)).trans c1
  have p1 : wa.frozen? ⟨p, 1, none⟩ = false := by
    have := HN.out.row
    simp [World.frozen?, hba.block p hplt, this]
  have hpa : p < wa.heap.size := Nat.lt_of_lt_of_le hplt hba.size
  have HWQ := Lib.hid (show wq = (wa.setCell ⟨p, 1, none⟩ (.slice (some ⟨g, 0, none⟩) k k)).alloc (.cells #[.slice none 0 0, .slice (some ⟨g2, 0, none⟩) (n - k) cap2, .int .i64 0] 59) by rw [hwq, hws])
  have HG2 := Lib.hid hg2
  have HBA := Lib.hid hba
  clear hNP hNQ hFb hFa hown1 hgrow1 hnew1 hba hbq hq0 hqo hcut hwq hws hsz c2 HO hg2
  go_wp2_with fail
  rw [← HWQ.out]
  have hcell : ∀ i, i < n → wq.cell? ⟨subs.getD i default, 2, none⟩ = some (.int .i64 (ms.getD i default : Nat)) ∧ subs.getD i default ≠ p := fun i hi => by
    obtain ⟨q1, q2⟩ := HM.out i hi
    exact ⟨(HFB.out.cell (by exact block_lt_of_cell q1) (by exact q2)).trans q1, q2⟩
  have HCE := Lib.hid hcell
  have hclt : ∀ i, i < n → subs.getD i default < w1.heap.size := fun i hi => block_lt_of_cell (HM.out i hi).1
  have HCL := Lib.hid hclt
  clear hcell hclt
  refine (count_any HNP.out (ms.take k) (by rw [List.length_take, hkl, HML.out]; omega) (fun i hi => by
    rw [hkl] at hi
    have e1 : (subs.take k).getD i default = subs.getD i default := by simp [List.getD_eq_getElem?_getD, hi]
    have e2 : (ms.take k).getD i default = ms.getD i default := by simp [List.getD_eq_getElem?_getD, hi]
    rw [e1, e2]
    exact HCE.out i (by omega)) (by simp) (by rw [hkl]; omega) (fun x hx => HMB.out x (List.mem_of_mem_take hx))).mono ?_
  rw [List.length_nil, Nat.zero_add]
  rintro e w2 ⟨⟨u, rfl⟩, HP2, hf2⟩
  have HQ2 := Lib.hid (HNQ.out.keep fun x hx => hf2.block x (HNQ.out.lt x hx).1 fun e => by
    rcases hx with h1 | h1 | h1
    · omega
    · cases h1
    · have : g2 = x := by simpa [Value.ownBlock] using h1
      have := HG2.out
      omega)
  have HP2 := Lib.hid HP2
  have HF2 := Lib.hid (HFB.out.trans hf2)
  clear hf2 HNP HNQ HFB
  go_wp2_with fail
  have hcell2 : ∀ i, i < n → w2.cell? ⟨subs.getD i default, 2, none⟩ = some (.int .i64 (ms.getD i default : Nat)) ∧ subs.getD i default ≠ wa.heap.size := fun i hi => by
    obtain ⟨q1, q2⟩ := HM.out i hi
    have := HCL.out i hi
    have := HBA.out.size
    exact ⟨(HF2.out.cell (by exact HCL.out i hi) (by exact q2)).trans q1, by omega⟩
  refine (count_any HQ2.out (ms.drop k) (by rw [List.length_drop, hdl, HML.out]) (fun i hi => by
    rw [hdl] at hi
    have e1 : (subs.drop k).getD i default = subs.getD (k + i) default := by simp [List.getD_eq_getElem?_getD, List.getElem?_drop]
    have e2 : (ms.drop k).getD i default = ms.getD (k + i) default := by simp [List.getD_eq_getElem?_getD, List.getElem?_drop]
    rw [e1, e2]
    exact hcell2 (k + i) (by omega)) (by simp) (by rw [hdl]; omega) (fun x hx => HMB.out x (List.mem_of_mem_drop hx))).mono ?_
  rw [List.length_nil, Nat.zero_add]
  rintro e w3 ⟨⟨u2, rfl⟩, HQ3, hf3⟩
  have hpl : ∀ x, nodeF p (.slice sa ([] : List Row).length sc) (.slice (some ⟨g, 0, none⟩) k k) x → x ≠ wa.heap.size := fun x hx e => by
    have h2 : x < w1.heap.size := by
      rcases hx with h1 | h1 | h1
      · omega
      · exact (HN.out.lt x (.inr (.inl h1))).1
      · have : g = x := by simpa [Value.ownBlock] using h1
        omega
    have := HBA.out.size
    omega
  have HP3 := Lib.hid (HP2.out.keep fun x hx => hf3.block x (HP2.out.lt x hx).1 (hpl x hx))
  have HQ3 := Lib.hid HQ3
  have HF3 := Lib.hid (HF2.out.then hf3 fun x hx e => by have := HBA.out.size; omega)
  go_wp2_with fail
  go_ret
  refine ⟨wa.heap.size, _, _, rfl, HP3.out, HQ3.out, fun x hx => hx, fun x hx => ?_, HF3.out⟩
  rcases hx with rfl | h1 | h1
  · exact HBA.out.size
  · cases h1
  · have : g2 = x := by simpa [Value.ownBlock] using h1
    have := HG2.out
    omega
end Go.Proofs.Ytdgapagpmdfndaa
