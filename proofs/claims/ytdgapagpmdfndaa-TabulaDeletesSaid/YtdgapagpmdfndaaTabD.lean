/- LAYER 13 (tabula): count, insert, remove. -/
import Derived.Test.YtdgapagpmdfndaaTabC
import Derived.StillTailTactics
import Derived.BigRegion
namespace Go.Proofs.Ytdgapagpmdfndaa
open Go.RowKit
set_option linter.unusedVariables false
def sumN (l : List Nat) : Nat := l.foldl (· + ·) 0
theorem sumN_append (l : List Nat) (x : Nat) : sumN (l ++ [x]) = sumN l + x := by simp [sumN]
theorem take_snoc {α : Type} [Inhabited α] (l : List α) (j : Nat) (h : j < l.length) : l.take (j + 1) = l.take j ++ [l.getD j default] := by
  rw [List.take_add_one]
  have : l[j]? = some (l.getD j default) := by simp [h]
  rw [this]; rfl
theorem NodeAt.setMany {w : World} {B p : Nat} {rv sv : Value} {rows : List Row} {subs : List Nat} {m : Int} (h : NodeAt w B p rv sv rows subs m) (m' : Int) : NodeAt (w.setCell ⟨p, 2, none⟩ (.int .i64 m')) B p rv sv rows subs m' := by
  have hrs : ∀ r, rv.ownBlock = some r → r ≠ p := fun r hr e => by
    obtain ⟨_, _, cur, hc⟩ := h.rs.block r hr
    subst e
    rw [h.row] at hc
    simp at hc
  have hss : ∀ r, sv.ownBlock = some r → r ≠ p := fun r hr e => by
    obtain ⟨_, _, cur, hc⟩ := h.ss.block r hr
    subst e
    rw [h.row] at hc
    simp at hc
  refine ⟨?_, h.rs.keep fun r hr => Below.heap_setCell _ _ _ _ (hrs r hr), h.ss.keep fun r hr => Below.heap_setCell _ _ _ _ (hss r hr), h.bp⟩
  rw [heap_setCell_same _ _ _ _ _ _ h.row]
  rfl
theorem NodeAt.free {w : World} {B p : Nat} {rv sv : Value} {rows : List Row} {subs : List Nat} {m : Int} (h : NodeAt w B p rv sv rows subs m) (i : Nat) : w.frozen? ⟨p, i, none⟩ = false := by simp [World.frozen?, h.row]
theorem NodeAt.below {w w' : World} {B p : Nat} {rv sv : Value} {rows : List Row} {subs : List Nat} {m : Int} (h : NodeAt w B p rv sv rows subs m) (hb : Below w.heap.size w w') : NodeAt w' B p rv sv rows subs m := h.keep fun x hx => hb.block x (h.lt x hx).1
set_option maxRecDepth 100000 in
set_option maxHeartbeats 2000000 in
theorem count_any {w : World} {B p : Nat} {rv sv : Value} {rows : List Row} {subs : List Nat} {m : Int} (hn : NodeAt w B p rv sv rows subs m) (ms : List Nat) (hl : ms.length = subs.length)
    (hm : ∀ i, i < subs.length → w.cell? ⟨subs.getD i default, 2, none⟩ = some (.int .i64 (ms.getD i default : Nat)) ∧ subs.getD i default ≠ p) (hr : rows.length ≤ 1000) (hs : subs.length ≤ 1000) (hb : ∀ x ∈ ms, x ≤ 1000000000) :
    Calls Try.prog 36 #[.pointer (some ⟨p, 0, none⟩)] w fun e w' => (∃ v, e = .returned v) ∧ NodeAt w' B p rv sv rows subs ((rows.length + sumN ms : Nat) : Int) ∧ Frm (fun x => x = p) w w' := by
  obtain ⟨c0, c1, c2⟩ := hn.cells
  have f2 := hn.free 2
  have HN0 := Lib.hid (hn.setMany ((rows.length : Nat) : Int))
  have hf0 : Frm (fun x => x = p) w (w.setCell ⟨p, 2, none⟩ (.int .i64 ((rows.length : Nat) : Int))) := (Frm.refl (fun x => x = p) w).setCell (p := ⟨p, 2, none⟩) (.inl rfl) _
  obtain ⟨n, hnn⟩ : ∃ n, n = subs.length := ⟨_, rfl⟩
  obtain ⟨r, hrr⟩ : ∃ r, r = rows.length := ⟨_, rfl⟩
  obtain ⟨ra, rc, rfl⟩ := hn.rs.len
  obtain ⟨sa, sc, rfl⟩ := hn.ss.len
  have HM := Lib.hid hm
  have HB := Lib.hid hb
  have HNN := Lib.hid hnn
  have HL := Lib.hid hl
  have hsum : ∀ j, j ≤ n → sumN (ms.take j) ≤ j * 1000000000 := by
    intro j
    induction j with
    | zero => intro _; simp [sumN]
    | succ j ih =>
      intro hj
      rw [take_snoc ms j (by omega), sumN_append]
      have := ih (by omega)
      have := hb _ (getD_mem ms j (by omega))
      rw [Nat.add_mul]
      omega
  have HSU := Lib.hid hsum
  rw [← hrr] at HN0 hf0 hr c0 ⊢
  rw [← hnn] at hs HN0 c1 HM HL ⊢
  have HRR := Lib.hid hrr
  clear hm hb hl hnn hsum hn hrr
  go_enter Try.func36, Try.ntmps36
  go_wp2_with fail
  generalize World.setCell w _ _ = w1 at *
  go_loopw [17] (fun i wr => ∃ j : Nat, j ≤ n ∧ i = .int .i64 (j : Int) ∧ Hid (NodeAt wr B p (.slice ra r rc) (.slice sa n sc) rows subs ((r + sumN (ms.take j) : Nat) : Int)) ∧ Hid (Frm (fun x => x = p) w wr)) (fun i _ => n - (intOf i).toNat)
  case atStart => exact ⟨0, Nat.zero_le _, rfl, HN0, Lib.hid hf0⟩
  case round =>
    clear HN0 hf0
    obtain ⟨j, hj, rfl, HN, HF⟩ := hrel
    obtain ⟨c0, c1, c2⟩ := HN.out.cells
    have f2 := HN.out.free 2
    have hsj := HSU.out j hj
    by_cases hlt : j < n
    · have hsj2 := HSU.out (j + 1) (by omega)
      have hmj := HB.out _ (getD_mem ms j (by rw [HL.out]; exact hlt))
      have hst := take_snoc ms j (by rw [HL.out]; exact hlt)
      obtain ⟨q1, q2⟩ := HM.out j hlt
      have d0 := HN.out.ss
      rw [← HNN.out] at d0
      obtain ⟨g, cap, hv, _⟩ := d0.shape (by omega)
      cases hv
      have d1 := d0.cellAt j (by omega)
      rw [ptrCells_at _ j (by rw [← HNN.out]; exact hlt)] at d1
      have q1 := (HF.out.cell (by exact block_lt_of_cell q1) (by exact q2)).trans q1
      have HS := Lib.hid (show sumN (ms.take (j + 1)) = sumN (ms.take j) + ms.getD j default by rw [hst, sumN_append])
      generalize sumN (ms.take j) = a at *
      generalize subs.getD j default = q at *
      generalize ms.getD j default = x at *
      clear hst d0
      go_wp2_with fail
      have z1 : IntKind.i64.wrap (((r + a : Nat) : Int) + (x : Int)) = ((r + a + x : Nat) : Int) := by rw [IntKind.wrap_i64]; omega
      go_still_tail 11, (by kernel_rfl)
      change wpList _ _ _ _ _ wr.drew
      have HN2 := Lib.hid (HN.out.below ((Below.refl _ _).drew))
      have HF2 := Lib.hid (HF.out.drew)
      generalize World.drew wr = wd at *
      clear c0 c1 c2 f2 d1 q1 HN HF
      obtain ⟨c0, c1, c2⟩ := HN2.out.cells
      have f2 := HN2.out.free 2
      go_wp2_with fail
      have HN3 := Lib.hid (HN2.out.setMany ((r + a + x : Nat) : Int))
      go_roundw
      case rel => exact ⟨j + 1, by omega, by go_num, by rw [HS.out, ← Nat.add_assoc]; exact HN3, Lib.hid (HF2.out.setCell (.inl rfl) _)⟩
      case measure => simp [intOf]; omega
    · obtain rfl : j = n := by omega
      rw [List.take_of_length_le (by rw [HL.out]; exact Nat.le_refl _)] at HN
      go_wp2_with fail
      go_end0
      exact ⟨⟨_, rfl⟩, HN.out, HF.out⟩
theorem infoPtr : (Try.prog.info? 55).map (fun i => (i.zero, i.size, i.bytes)) = some (some (.pointer none), 1, 8) := by kernel_rfl
theorem infoRow : (Try.prog.info? 68).map (fun i => (i.zero, i.size, i.bytes)) = some (some (.agg #[.int .i64 0, .int .i64 0]), 2, 16) := by kernel_rfl
theorem one_new (w : World) (x : Value) (e : TypeId) (j : Nat) (u : Value) (h : [x][j]? = some u) : (w.alloc (.cells #[x] e (0, 0))).cell? ((⟨w.heap.size, 0, none⟩ : Addr).add j) = some u := by
  match j, h with
  | 0, h => simpa [go_sem] using h
theorem two_new (w : World) (x y : Value) (e : TypeId) (j : Nat) (u : Value) (h : [x, y][j]? = some u) : (w.alloc (.cells #[x, y] e (0, 0))).cell? ((⟨w.heap.size, 0, none⟩ : Addr).add j) = some u := by
  match j, h with
  | 0, h => simpa [go_sem] using h
  | 1, h => simpa [go_sem] using h
/-- A row behind 'copy(l[k+1:], l[k:])'. -/
theorem copy_up {α : Type} (C xs ys : List α) (n k s : Nat) (h : C.take ((n + 1) * s) = xs ++ ys) (hx : xs.length = n * s) (hy : ys.length = s) (hk : k ≤ n) :
    ∃ Z R, Z.length = s ∧ C.take ((k + 1) * s) ++ (C.drop (k * s)).take ((n - k) * s) ++ C.drop ((k + 1) * s + (n - k) * s) = xs.take (k * s) ++ Z ++ xs.drop (k * s) ++ R ∧ C.length = (n + 1) * s + R.length ∧ (C.drop (k * s)).take ((n - k) * s) = xs.drop (k * s) := by
  obtain ⟨R, hR⟩ : ∃ R, R = C.drop ((n + 1) * s) := ⟨_, rfl⟩
  have hC : C = xs ++ ys ++ R := by rw [hR, ← h, List.take_append_drop]
  obtain ⟨A, hA⟩ : ∃ A, A = xs.take (k * s) := ⟨_, rfl⟩
  obtain ⟨D, hD⟩ : ∃ D, D = xs.drop (k * s) := ⟨_, rfl⟩
  have hxs : xs = A ++ D := by rw [hA, hD, List.take_append_drop]
  have e1 : (n - k) * s + k * s = n * s := by rw [← Nat.add_mul, Nat.sub_add_cancel hk]
  have e2 : (k + 1) * s = k * s + s := by rw [Nat.add_mul, Nat.one_mul]
  have e3 : (n + 1) * s = n * s + s := by rw [Nat.add_mul, Nat.one_mul]
  have hAl : A.length = k * s := by rw [hA, List.length_take]; omega
  have hDl : D.length = (n - k) * s := by rw [hD, List.length_drop]; omega
  rw [← hA, ← hD]
  have f1 : C.take ((k + 1) * s) = A ++ (D ++ ys).take s := by
    rw [hC, hxs, e2, List.append_assoc, List.append_assoc, List.take_append, hAl, List.take_of_length_le (by omega)]
    rw [show k * s + s - k * s = s by omega, ← List.append_assoc, List.take_append_of_le_length (by rw [List.length_append]; omega)]
  have f2 : (C.drop (k * s)).take ((n - k) * s) = D := by
    rw [hC, hxs, List.append_assoc, List.append_assoc, ← hAl, List.drop_left, ← hDl, List.take_left]
  have f3 : C.drop ((k + 1) * s + (n - k) * s) = R := by
    rw [hR]; congr 1; omega
  exact ⟨(D ++ ys).take s, R, by rw [List.length_take, List.length_append]; omega, by rw [f1, f2, f3], by rw [hC]; simp; omega, f2⟩
set_option maxRecDepth 100000 in
set_option maxHeartbeats 2000000 in
theorem insP_any {w : World} {B : Nat} {v : Value} {l : List Nat} (ho : OwnS w B 55 1 v l.length (ptrCells l)) (hB : B ≤ w.heap.size) (k q : Nat) (hk : k ≤ l.length) (hl : l.length ≤ 1000) :
    Calls Try.prog 44 #[v, .int .i64 (k : Int), .pointer (some ⟨q, 0, none⟩)] w fun e w' => ∃ v', e = .returned v' ∧ OwnS w' B 55 1 v' (l.length + 1) (ptrCells (l.take k ++ q :: l.drop k)) ∧ Frm (fun x => v.ownBlock = some x) w w' ∧ (∀ r, v'.ownBlock = some r → v.ownBlock = some r ∨ w.heap.size ≤ r) := by
  obtain ⟨i0, hk1, hk2, hk3, hk4⟩ := info_parts infoPtr
  obtain ⟨n, hnn⟩ : ∃ n, n = l.length := ⟨_, rfl⟩
  have HNN := Lib.hid hnn
  rw [← hnn] at ho hk hl ⊢
  obtain ⟨sa, sc, rfl⟩ := ho.len
  have HO := Lib.hid ho
  clear hnn ho
  go_enter Try.func44, Try.ntmps44
  go_wp2_with (at_builtin; refine wpList_append_any _ rfl _ _ 57 rfl B 55 i0 (.pointer none) 1 8 Try.underlying57 hk1 hk2 hk3 hk4 rfl (by decide) _ _ _ rfl (HO.out.alloc _) (some ⟨w.heap.size, 0, none⟩) 1 1 [.pointer (some ⟨q, 0, none⟩)] rfl rfl ?c0 ?c1 ?c2 ?c3 ?c4 ?c5 ?_)
  case c0 => first | (intro h; cases h; done) | simp
  case c1 => first | (intro ad had j u hu; cases had; exact one_new _ _ _ j u hu) | (intro j u hu; exact hu) | skip
  case c2 => first | rfl | (intro u hu; simp at hu; rcases hu with rfl; rfl)
  case c3 => unfold maxLen; omega
  case c4 => omega
  case c5 => simp; omega
  intro v1 wa hown1 hgrow1 hnew1
  have HF1 : Hid (Frm (fun x => (Value.slice sa n sc).ownBlock = some x) w wa) := Lib.hid ((((Frm.refl _ w).alloc _).grown hgrow1 fun r hr => .inl hr))
  have HNW : Hid (∀ r, v1.ownBlock = some r → (Value.slice sa n sc).ownBlock = some r ∨ w.heap.size ≤ r) := Lib.hid fun r hr => (hnew1 r hr).imp id (by omega)
  obtain ⟨hlen1, ⟨_, h0⟩ | ⟨g, cap, cur, rfl, hBg, hcur, hncap, hcapm, hcs, htk⟩⟩ := hown1
  · omega
  clear hgrow1 hnew1
  have hsw : w.heap.size ≤ wa.heap.size := HF1.out.size
  go_wp2_with fail
  have y0 : IntKind.i64.wrap ((k : Int) + 1) = (k : Int) + 1 := by rw [IntKind.wrap_i64]; omega
  have y1 : (0 : Int) ≤ (k : Int) + 1 := by omega
  have y2 : (0 : Int) ≤ (k : Int) := by omega
  have y3 : (k : Int) + 1 ≤ (cap : Int) := by omega
  have y4 : (k : Int) ≤ (cap : Int) := by omega
  have y5 : (k : Int) + 1 ≤ (n : Int) + 1 := by omega
  have y6 : (k : Int) ≤ (n : Int) + 1 := by omega
  go_still_tail 7, (by kernel_rfl)
  change wpList _ _ _ _ _ wa.drew
  obtain ⟨C, hC⟩ : ∃ C, C = cur.toList := ⟨_, rfl⟩
  have hCl : C.length = cur.size := by rw [hC]; simp
  obtain ⟨Z, R, hZ, hsp, hlC, hmid⟩ := copy_up C (ptrCells l) [.pointer (some ⟨q, 0, none⟩)] n k 1 (by rw [hC]; exact htk) (by rw [ptrCells_len, ← HNN.out, Nat.mul_one]) rfl hk
  simp only [Nat.mul_one] at hsp hlC htk hmid
  have hcsl : ((C.drop k).take (n - k)).length = n - k := by rw [List.length_take, List.length_drop]; omega
  have hmin : Nat.min (n + 1 - k) (n - k) = n - k := by show min _ _ = _; omega
  refine wpList_copy_in wa.drew rfl _ _ 57 57 rfl 55 i0 1 Try.underlying57 hk1 hk3 _ _ _ _ _ _ rfl rfl g (k + 1) cur 55 hcur ((C.drop k).take (n - k)) ?_ ?_ ?_ ?_ ?_
  · rw [hcsl, Nat.mul_one]; exact hmin.symm
  · intro hpos
    rw [hmin] at hpos
    rw [if_neg (by omega), if_neg (by omega)]
    refine ⟨rfl, ⟨g, k, none⟩, rfl, fun j u hu => ?_⟩
    have hadd : (⟨g, k, none⟩ : Addr).add j = ⟨g, k + j, none⟩ := by
      unfold Addr.add
      split
      · rename_i h; have : j = 0 := by simpa using h
        subst this; rfl
      · rfl
    rw [hadd, cell_of_row wa.drew g (k + j) cur _ _ hcur]
    have hj := (List.getElem?_eq_some_iff.1 hu).1
    rw [hcsl] at hj
    rw [List.getElem?_take, if_pos hj, List.getElem?_drop, hC] at hu
    simpa using hu
  · rw [hcsl]; omega
  · intro u hu
    rw [hmid] at hu
    exact ptrCells_one l u (List.mem_of_mem_drop hu)
  · intro wc hwc hfc
    rw [← hC, hcsl, hsp] at hwc
    obtain ⟨z, rfl⟩ : ∃ z, Z = [z] := by
      match Z, hZ with
      | [z], _ => exact ⟨z, rfl⟩
    have hAl : ((ptrCells l).take k).length = k := by rw [List.length_take, ptrCells_len, ← HNN.out]; omega
    have hcell : wc.cell? ⟨g, k, none⟩ = some z := by
      rw [cell_of_row wc g k _ _ _ hwc]
      simp only [List.getElem?_toArray]
      rw [List.append_assoc, List.append_assoc, List.getElem?_append_right (by omega), hAl, Nat.sub_self]
      rfl
    have hfz : wc.frozen? ⟨g, k, none⟩ = false := frozen_of_row wc g k _ _ hwc
    have hown : OwnS (wc.setCell ⟨g, k, none⟩ (.pointer (some ⟨q, 0, none⟩))) B 55 1 (.slice (some ⟨g, 0, none⟩) (n + 1) cap) (n + 1) (ptrCells (l.take k ++ q :: l.drop k)) := by
      have hset : ((ptrCells l).take k ++ [z] ++ (ptrCells l).drop k ++ R).set k (.pointer (some ⟨q, 0, none⟩)) = ptrCells (l.take k ++ q :: l.drop k) ++ R := by
        rw [List.append_assoc, List.append_assoc, List.set_append_right _ _ (by omega), hAl, Nat.sub_self, ptrCells_append]
        simp [ptrCells, ptrV, List.map_take, List.map_drop]
      have hlen2 : (ptrCells (l.take k ++ q :: l.drop k)).length = n + 1 := by
        rw [ptrCells_len]; simp [← HNN.out]; omega
      refine ⟨by rw [hlen2, Nat.mul_one], .inr ⟨g, cap, _, rfl, hBg, heap_setCell_same _ _ _ _ _ _ hwc, hncap, hcapm, ?_, ?_⟩⟩
      · rw [Array.size_setIfInBounds]
        have e : (List.take k (ptrCells l) ++ [z] ++ List.drop k (ptrCells l) ++ R).length = C.length := by
          rw [hlC]; simp [ptrCells_len, ← HNN.out]; omega
        simp only [List.size_toArray, e]
        omega
      · rw [Array.toList_setIfInBounds, List.toList_toArray, hset, Nat.mul_one, ← hlen2, List.take_left]
    have HOW := Lib.hid hown
    have HFR : Hid (Frm (fun x => (Value.slice sa n sc).ownBlock = some x) w (wc.setCell ⟨g, k, none⟩ (.pointer (some ⟨q, 0, none⟩)))) := Lib.hid ((HF1.out.drew.then hfc fun x hx e => by
      subst e
      rcases HNW.out x rfl with h1 | h1
      · exact h1
      · omega).setCell (p := ⟨g, k, none⟩) (HNW.out g rfl) _)
    clear hown hwc hfc hsp hmid hcur htk hlen1 hC
    generalize (if cap = k + 1 then some (⟨g, 0, none⟩ : Addr) else some ⟨g, k + 1, none⟩) = d1
    generalize (if cap = k then some (⟨g, 0, none⟩ : Addr) else some ⟨g, k, none⟩) = d2
    go_wp2_with fail
    go_ret
    exact ⟨_, rfl, HOW.out, HFR.out, HNW.out⟩
set_option maxRecDepth 100000 in
set_option maxHeartbeats 2000000 in
theorem insR_any {w : World} {B : Nat} {v : Value} {l : List Row} (ho : OwnS w B 68 2 v l.length (rowCells l)) (hB : B ≤ w.heap.size) (k : Nat) (q : Row) (hk : k ≤ l.length) (hl : l.length ≤ 1000) :
    Calls Try.prog 46 #[v, .int .i64 (k : Int), .agg #[.int .i64 q.1, .int .i64 q.2]] w fun e w' => ∃ v', e = .returned v' ∧ OwnS w' B 68 2 v' (l.length + 1) (rowCells (l.take k ++ q :: l.drop k)) ∧ Frm (fun x => v.ownBlock = some x) w w' ∧ (∀ r, v'.ownBlock = some r → v.ownBlock = some r ∨ w.heap.size ≤ r) := by
  obtain ⟨i0, hk1, hk2, hk3, hk4⟩ := info_parts infoRow
  obtain ⟨n, hnn⟩ : ∃ n, n = l.length := ⟨_, rfl⟩
  have HNN := Lib.hid hnn
  rw [← hnn] at ho hk hl ⊢
  obtain ⟨sa, sc, rfl⟩ := ho.len
  have HO := Lib.hid ho
  clear hnn ho
  go_enter Try.func46, Try.ntmps46
  go_wp2_with (at_builtin; refine wpList_append_any _ rfl _ _ 56 rfl B 68 i0 (.agg #[.int .i64 0, .int .i64 0]) 2 16 Try.underlying56 hk1 hk2 hk3 hk4 rfl (by decide) _ _ _ rfl ((HO.out.alloc _).alloc _) (some ⟨w.heap.size + 1, 0, none⟩) 1 1 [.int .i64 q.1, .int .i64 q.2] rfl rfl ?c0 ?c1 ?c2 ?c3 ?c4 ?c5 ?_)
  case c0 => first | (intro h; cases h; done) | simp
  case c1 => first | (intro ad had j u hu; cases had; have := two_new (w.alloc (.cells #[.int .i64 q.1, .int .i64 q.2] 68)) (.int .i64 q.1) (.int .i64 q.2) 68 j u hu; simpa using this) | (intro j u hu; exact hu) | skip
  case c2 => first | exact ⟨rfl, rfl⟩ | (intro u hu; simp at hu; rcases hu with rfl | rfl <;> rfl)
  case c3 => unfold maxLen; omega
  case c4 => omega
  case c5 => simp; omega
  intro v1 wa hown1 hgrow1 hnew1
  have HF1 : Hid (Frm (fun x => (Value.slice sa n sc).ownBlock = some x) w wa) := Lib.hid (((((Frm.refl _ w).alloc _).alloc _).grown hgrow1 fun r hr => .inl hr))
  have HNW : Hid (∀ r, v1.ownBlock = some r → (Value.slice sa n sc).ownBlock = some r ∨ w.heap.size ≤ r) := Lib.hid fun r hr => (hnew1 r hr).imp id (by omega)
  have hown0 : ∀ r, (Value.slice sa n sc).ownBlock = some r → r < w.heap.size := fun r hr => (HO.out.block r hr).2.1
  have hbox : wa.heap[w.heap.size]? = some (.cells #[.int .i64 q.1, .int .i64 q.2] 68 (0, 0)) := by
    rw [hgrow1.block _ (by simp; omega) (fun e => by have := hown0 _ e.symm; omega), Below.heap_alloc _ _ _ (by simp)]
    exact heap_alloc_new _ _
  have HNW2 : Hid (∀ r, v1.ownBlock = some r → r ≠ w.heap.size) := Lib.hid fun r hr e => by
    subst e
    rcases hnew1 _ hr with h1 | h1
    · have := hown0 _ h1; omega
    · omega
  obtain ⟨hlen1, ⟨_, h0⟩ | ⟨g, cap, cur, rfl, hBg, hcur, hncap, hcapm, hcs, htk⟩⟩ := hown1
  · omega
  clear hgrow1 hnew1
  have hsw : w.heap.size ≤ wa.heap.size := HF1.out.size
  go_wp2_with fail
  have y0 : IntKind.i64.wrap ((k : Int) + 1) = (k : Int) + 1 := by rw [IntKind.wrap_i64]; omega
  have y1 : (0 : Int) ≤ (k : Int) + 1 := by omega
  have y2 : (0 : Int) ≤ (k : Int) := by omega
  have y3 : (k : Int) + 1 ≤ (cap : Int) := by omega
  have y4 : (k : Int) ≤ (cap : Int) := by omega
  have y5 : (k : Int) + 1 ≤ (n : Int) + 1 := by omega
  have y6 : (k : Int) ≤ (n : Int) + 1 := by omega
  go_still_tail 7, (by kernel_rfl)
  change wpList _ _ _ _ _ wa.drew
  obtain ⟨C, hC⟩ : ∃ C, C = cur.toList := ⟨_, rfl⟩
  have hCl : C.length = cur.size := by rw [hC]; simp
  obtain ⟨Z, R, hZ, hsp, hlC, hmid⟩ := copy_up C (rowCells l) [.int .i64 q.1, .int .i64 q.2] n k 2 (by rw [hC]; exact htk) (by rw [rowCells_len, ← HNN.out]) rfl hk
  have e2 : (k + 1) * 2 = k * 2 + 1 + 1 := by omega
  have hcsl : ((C.drop (k * 2)).take ((n - k) * 2)).length = (n - k) * 2 := by rw [List.length_take, List.length_drop]; omega
  have hmin : Nat.min (n + 1 - k) (n - k) = n - k := by show min _ _ = _; omega
  refine wpList_copy_in wa.drew rfl _ _ 56 56 rfl 68 i0 2 Try.underlying56 hk1 hk3 _ _ _ _ _ _ rfl rfl g ((k + 1) * 2) cur 68 hcur ((C.drop (k * 2)).take ((n - k) * 2)) ?_ ?_ ?_ ?_ ?_
  · rw [hcsl, hmin]
  · intro hpos
    rw [hmin] at hpos
    rw [if_neg (by omega), if_neg (by omega)]
    refine ⟨rfl, ⟨g, k * 2, none⟩, rfl, fun j u hu => ?_⟩
    have hadd : (⟨g, k * 2, none⟩ : Addr).add j = ⟨g, k * 2 + j, none⟩ := by
      unfold Addr.add
      split
      · rename_i h; have : j = 0 := by simpa using h
        subst this; rfl
      · rfl
    rw [hadd, cell_of_row wa.drew g (k * 2 + j) cur _ _ hcur]
    have hj := (List.getElem?_eq_some_iff.1 hu).1
    rw [hcsl] at hj
    rw [List.getElem?_take, if_pos hj, List.getElem?_drop, hC] at hu
    simpa using hu
  · rw [hcsl]; omega
  · intro u hu
    rw [hmid] at hu
    exact rowCells_one l u (List.mem_of_mem_drop hu)
  · intro wc hwc hfc
    rw [← hC, hcsl, hsp] at hwc
    obtain ⟨z1, z2, rfl⟩ : ∃ z1 z2, Z = [z1, z2] := by
      match Z, hZ with
      | [z1, z2], _ => exact ⟨z1, z2, rfl⟩
    have hAl : ((rowCells l).take (k * 2)).length = k * 2 := by rw [List.length_take, rowCells_len, ← HNN.out]; omega
    have hcell1 : wc.cell? ⟨g, k * 2, none⟩ = some z1 := by
      rw [cell_of_row wc g (k * 2) _ _ _ hwc]
      simp only [List.getElem?_toArray]
      rw [List.append_assoc, List.append_assoc, List.getElem?_append_right (by omega), hAl, Nat.sub_self]
      rfl
    have hcell2 : wc.cell? ⟨g, k * 2 + 1, none⟩ = some z2 := by
      rw [cell_of_row wc g (k * 2 + 1) _ _ _ hwc]
      simp only [List.getElem?_toArray]
      rw [List.append_assoc, List.append_assoc, List.getElem?_append_right (by omega), hAl, show k * 2 + 1 - k * 2 = 1 by omega]
      rfl
    have hfz1 : wc.frozen? ⟨g, k * 2, none⟩ = false := frozen_of_row wc g _ _ _ hwc
    have hfz2 : wc.frozen? ⟨g, k * 2 + 1, none⟩ = false := frozen_of_row wc g _ _ _ hwc
    have hgb : g ≠ w.heap.size := HNW2.out g rfl
    have hbox2 : wc.heap[w.heap.size]? = some (.cells #[.int .i64 q.1, .int .i64 q.2] 68 (0, 0)) := (hfc.block _ (lt_of_block hbox) (fun e => hgb e.symm)).trans hbox
    have hx1 : wc.cell? ⟨w.heap.size, 0, none⟩ = some (.int .i64 q.1) := by rw [cell_of_row _ _ 0 _ _ _ hbox2]; rfl
    have hx2 : wc.cell? ⟨w.heap.size, 1, none⟩ = some (.int .i64 q.2) := by rw [cell_of_row _ _ 1 _ _ _ hbox2]; rfl
    have hown : OwnS ((wc.setCell ⟨g, k * 2, none⟩ (.int .i64 q.1)).setCell ⟨g, k * 2 + 1, none⟩ (.int .i64 q.2)) B 68 2 (.slice (some ⟨g, 0, none⟩) (n + 1) cap) (n + 1) (rowCells (l.take k ++ q :: l.drop k)) := by
      have hset : (((rowCells l).take (k * 2) ++ [z1, z2] ++ (rowCells l).drop (k * 2) ++ R).set (k * 2) (.int .i64 q.1)).set (k * 2 + 1) (.int .i64 q.2) = rowCells (l.take k ++ q :: l.drop k) ++ R := by
        rw [List.append_assoc, List.append_assoc, List.set_append_right _ _ (by omega), hAl, Nat.sub_self, List.set_append_right _ _ (by omega), hAl, show k * 2 + 1 - k * 2 = 1 by omega, rowCells_append, rowCells_take, rowCells_drop]
        simp [rowCells]
      have hlen2 : (rowCells (l.take k ++ q :: l.drop k)).length = (n + 1) * 2 := by
        rw [rowCells_len]; simp [← HNN.out]; omega
      refine ⟨by rw [hlen2], .inr ⟨g, cap, _, rfl, hBg, heap_setCell_same _ _ _ _ _ _ (heap_setCell_same _ _ _ _ _ _ hwc), hncap, hcapm, ?_, ?_⟩⟩
      · rw [Array.size_setIfInBounds, Array.size_setIfInBounds]
        have e : (List.take (k * 2) (rowCells l) ++ [z1, z2] ++ List.drop (k * 2) (rowCells l) ++ R).length = C.length := by
          rw [hlC]; simp [rowCells_len, ← HNN.out]; omega
        simp only [List.size_toArray, e]
        omega
      · rw [Array.toList_setIfInBounds, Array.toList_setIfInBounds, List.toList_toArray, hset, ← hlen2, List.take_left]
    have HOW := Lib.hid hown
    have HFR : Hid (Frm (fun x => (Value.slice sa n sc).ownBlock = some x) w ((wc.setCell ⟨g, k * 2, none⟩ (.int .i64 q.1)).setCell ⟨g, k * 2 + 1, none⟩ (.int .i64 q.2))) := Lib.hid ((HF1.out.drew.then hfc fun x hx e => by
      subst e
      rcases HNW.out x rfl with h1 | h1
      · exact h1
      · omega).setCell (p := ⟨g, k * 2, none⟩) (HNW.out g rfl) _ |>.setCell (p := ⟨g, k * 2 + 1, none⟩) (HNW.out g rfl) _)
    clear hown hwc hfc hsp hmid hcur htk hlen1 hC
    generalize (if cap = k + 1 then some (⟨g, 0, none⟩ : Addr) else some ⟨g, (k + 1) * 2, none⟩) = d1
    generalize (if cap = k then some (⟨g, 0, none⟩ : Addr) else some ⟨g, k * 2, none⟩) = d2
    go_wp2_with fail
    go_ret
    exact ⟨_, rfl, HOW.out, HFR.out, HNW.out⟩
/-- A row behind 'copy(l[k:], l[k+1:])'. -/
theorem copy_down {α : Type} (C xs : List α) (n k s : Nat) (h : C.take ((n + 1) * s) = xs) (hx : xs.length = (n + 1) * s) (hk : k ≤ n) :
    (C.drop ((k + 1) * s)).take ((n - k) * s) = xs.drop ((k + 1) * s) ∧ (C.take (k * s) ++ (C.drop ((k + 1) * s)).take ((n - k) * s) ++ C.drop (k * s + (n - k) * s)).take (n * s) = xs.take (k * s) ++ xs.drop ((k + 1) * s) ∧
      (C.take (k * s) ++ (C.drop ((k + 1) * s)).take ((n - k) * s) ++ C.drop (k * s + (n - k) * s)).length = C.length := by
  obtain ⟨R, hR⟩ : ∃ R, R = C.drop ((n + 1) * s) := ⟨_, rfl⟩
  have hC : C = xs ++ R := by rw [hR, ← h, List.take_append_drop]
  have e1 : (n - k) * s + k * s = n * s := by rw [← Nat.add_mul, Nat.sub_add_cancel hk]
  have e2 : (k + 1) * s = k * s + s := by rw [Nat.add_mul, Nat.one_mul]
  have e3 : (n + 1) * s = n * s + s := by rw [Nat.add_mul, Nat.one_mul]
  have f1 : C.take (k * s) = xs.take (k * s) := by rw [hC, List.take_append_of_le_length (by omega)]
  have f2 : (C.drop ((k + 1) * s)).take ((n - k) * s) = xs.drop ((k + 1) * s) := by
    rw [hC, List.drop_append_of_le_length (by omega), List.take_append_of_le_length (by rw [List.length_drop]; omega), List.take_of_length_le (by rw [List.length_drop]; omega)]
  have hlen : C.length = (n + 1) * s + R.length := by rw [hC, List.length_append, hx]
  refine ⟨f2, ?_, ?_⟩
  · rw [f1, f2, List.take_append_of_le_length (by rw [List.length_append, List.length_take, List.length_drop]; omega), List.take_of_length_le (by rw [List.length_append, List.length_take, List.length_drop]; omega)]
  · rw [f1, f2]
    simp only [List.length_append, List.length_take, List.length_drop]
    omega
set_option maxRecDepth 100000 in
set_option maxHeartbeats 2000000 in
theorem remP_any {w : World} {B : Nat} {v : Value} {l : List Nat} {n : Nat} (ho : OwnS w B 55 1 v l.length (ptrCells l)) (hnn : l.length = n + 1) (k : Nat) (hk : k ≤ n) (hl : n ≤ 1000) :
    Calls Try.prog 49 #[v, .int .i64 (k : Int)] w fun e w' => ∃ v', e = .returned v' ∧ OwnS w' B 55 1 v' n (ptrCells (l.take k ++ l.drop (k + 1))) ∧ Frm (fun x => v.ownBlock = some x) w w' ∧ (∀ r, v'.ownBlock = some r → v.ownBlock = some r) := by
  obtain ⟨i0, hk1, hk2, hk3, hk4⟩ := info_parts infoPtr
  have HNN := Lib.hid hnn
  rw [hnn] at ho
  obtain ⟨hlen1, ⟨_, h0⟩ | ⟨g, cap, cur, rfl, hBg, hcur, hncap, hcapm, hcs, htk⟩⟩ := ho
  · omega
  clear hnn
  have y0 : IntKind.i64.wrap ((k : Int) + 1) = (k : Int) + 1 := by rw [IntKind.wrap_i64]; omega
  have y1 : (0 : Int) ≤ (k : Int) + 1 := by omega
  have y2 : (0 : Int) ≤ (k : Int) := by omega
  have y3 : (k : Int) + 1 ≤ (cap : Int) := by omega
  have y4 : (k : Int) ≤ (cap : Int) := by omega
  have y5 : (k : Int) + 1 ≤ (n : Int) + 1 := by omega
  have y6 : (k : Int) ≤ (n : Int) + 1 := by omega
  go_enter Try.func49, Try.ntmps49
  go_wp2_with fail
  go_still_tail 7, (by kernel_rfl)
  change wpList _ _ _ _ _ w.drew
  obtain ⟨C, hC⟩ : ∃ C, C = cur.toList := ⟨_, rfl⟩
  have hCl : C.length = cur.size := by rw [hC]; simp
  obtain ⟨hmid, hsp, hl2⟩ := copy_down C (ptrCells l) n k 1 (by rw [hC]; exact htk) hlen1 hk
  simp only [Nat.mul_one] at hsp htk hmid hl2
  have hcsl : ((C.drop (k + 1)).take (n - k)).length = (n - k) := by rw [List.length_take, List.length_drop]; omega
  have hmin : Nat.min (n - k) (n + 1 - k) = n - k := by show min _ _ = _; omega
  refine wpList_copy_in w.drew rfl _ _ 57 57 rfl 55 i0 1 Try.underlying57 hk1 hk3 _ _ _ _ _ _ rfl rfl g k cur 55 hcur ((C.drop (k + 1)).take (n - k)) ?_ ?_ ?_ ?_ ?_
  · rw [hcsl, hmin, Nat.mul_one]
  · intro hpos
    rw [hmin] at hpos
    rw [if_neg (by omega), if_neg (by omega)]
    refine ⟨rfl, ⟨g, (k + 1), none⟩, rfl, fun j u hu => ?_⟩
    have hadd : (⟨g, (k + 1), none⟩ : Addr).add j = ⟨g, (k + 1) + j, none⟩ := by
      unfold Addr.add
      split
      · rename_i h; have : j = 0 := by simpa using h
        subst this; rfl
      · rfl
    rw [hadd, cell_of_row w.drew g ((k + 1) + j) cur _ _ hcur]
    have hj := (List.getElem?_eq_some_iff.1 hu).1
    rw [hcsl] at hj
    rw [List.getElem?_take, if_pos hj, List.getElem?_drop, hC] at hu
    simpa using hu
  · rw [hcsl]; omega
  · intro u hu
    rw [hmid] at hu
    exact ptrCells_one l u (List.mem_of_mem_drop hu)
  · intro wc hwc hfc
    rw [← hC, hcsl] at hwc
    have hown : OwnS wc B 55 1 (.slice (some ⟨g, 0, none⟩) n n) n (ptrCells (l.take k ++ l.drop (k + 1))) := by
      refine ⟨?_, .inr ⟨g, n, _, rfl, hBg, hwc, Nat.le_refl _, by omega, ?_, ?_⟩⟩
      · rw [ptrCells_len, List.length_append, List.length_take, List.length_drop, HNN.out, Nat.mul_one]; omega
      · simp only [List.size_toArray, hl2]; omega
      · rw [List.toList_toArray, Nat.mul_one, hsp]; simp [ptrCells, List.map_take, List.map_drop]
    have HOW := Lib.hid hown
    have HFR : Hid (Frm (fun x => (Value.slice (some (⟨g, 0, none⟩ : Addr)) (n + 1) cap).ownBlock = some x) w wc) := Lib.hid ((Frm.refl _ w).drew.then hfc fun x hx e => by subst e; rfl)
    clear hown hwc hfc hsp hmid hcur htk hlen1 hC hl2
    generalize (if cap = k + 1 then some (⟨g, 0, none⟩ : Addr) else some ⟨g, k + 1, none⟩) = d1
    generalize (if cap = k then some (⟨g, 0, none⟩ : Addr) else some ⟨g, k, none⟩) = d2
    have z1 : IntKind.i64.wrap (n : Int) = (n : Int) := by rw [IntKind.wrap_i64]; omega
    have z2 : (0 : Int) ≤ (n : Int) := by omega
    have z3 : (n : Int) ≤ (cap : Int) := by omega
    go_wp2_with fail
    go_ret
    exact ⟨_, rfl, HOW.out, HFR.out, fun r hr => hr⟩
set_option maxRecDepth 100000 in
set_option maxHeartbeats 2000000 in
theorem remR_any {w : World} {B : Nat} {v : Value} {l : List Row} {n : Nat} (ho : OwnS w B 68 2 v l.length (rowCells l)) (hnn : l.length = n + 1) (k : Nat) (hk : k ≤ n) (hl : n ≤ 1000) :
    Calls Try.prog 52 #[v, .int .i64 (k : Int)] w fun e w' => ∃ v', e = .returned v' ∧ OwnS w' B 68 2 v' n (rowCells (l.take k ++ l.drop (k + 1))) ∧ Frm (fun x => v.ownBlock = some x) w w' ∧ (∀ r, v'.ownBlock = some r → v.ownBlock = some r) := by
  obtain ⟨i0, hk1, hk2, hk3, hk4⟩ := info_parts infoRow
  have HNN := Lib.hid hnn
  rw [hnn] at ho
  obtain ⟨hlen1, ⟨_, h0⟩ | ⟨g, cap, cur, rfl, hBg, hcur, hncap, hcapm, hcs, htk⟩⟩ := ho
  · omega
  clear hnn
  have y0 : IntKind.i64.wrap ((k : Int) + 1) = (k : Int) + 1 := by rw [IntKind.wrap_i64]; omega
  have y1 : (0 : Int) ≤ (k : Int) + 1 := by omega
  have y2 : (0 : Int) ≤ (k : Int) := by omega
  have y3 : (k : Int) + 1 ≤ (cap : Int) := by omega
  have y4 : (k : Int) ≤ (cap : Int) := by omega
  have y5 : (k : Int) + 1 ≤ (n : Int) + 1 := by omega
  have y6 : (k : Int) ≤ (n : Int) + 1 := by omega
  go_enter Try.func52, Try.ntmps52
  go_wp2_with fail
  go_still_tail 7, (by kernel_rfl)
  change wpList _ _ _ _ _ w.drew
  obtain ⟨C, hC⟩ : ∃ C, C = cur.toList := ⟨_, rfl⟩
  have hCl : C.length = cur.size := by rw [hC]; simp
  obtain ⟨hmid, hsp, hl2⟩ := copy_down C (rowCells l) n k 2 (by rw [hC]; exact htk) hlen1 hk
  have e2 : (k + 1) * 2 = k * 2 + 1 + 1 := by omega
  have hcsl : ((C.drop ((k + 1) * 2)).take ((n - k) * 2)).length = ((n - k) * 2) := by rw [List.length_take, List.length_drop]; omega
  have hmin : Nat.min (n - k) (n + 1 - k) = n - k := by show min _ _ = _; omega
  refine wpList_copy_in w.drew rfl _ _ 56 56 rfl 68 i0 2 Try.underlying56 hk1 hk3 _ _ _ _ _ _ rfl rfl g (k * 2) cur 68 hcur ((C.drop ((k + 1) * 2)).take ((n - k) * 2)) ?_ ?_ ?_ ?_ ?_
  · rw [hcsl, hmin]
  · intro hpos
    rw [hmin] at hpos
    rw [if_neg (by omega), if_neg (by omega)]
    refine ⟨rfl, ⟨g, ((k + 1) * 2), none⟩, rfl, fun j u hu => ?_⟩
    have hadd : (⟨g, ((k + 1) * 2), none⟩ : Addr).add j = ⟨g, ((k + 1) * 2) + j, none⟩ := by
      unfold Addr.add
      split
      · rename_i h; have : j = 0 := by simpa using h
        subst this; rfl
      · rfl
    rw [hadd, cell_of_row w.drew g (((k + 1) * 2) + j) cur _ _ hcur]
    have hj := (List.getElem?_eq_some_iff.1 hu).1
    rw [hcsl] at hj
    rw [List.getElem?_take, if_pos hj, List.getElem?_drop, hC] at hu
    simpa using hu
  · rw [hcsl]; omega
  · intro u hu
    rw [hmid] at hu
    exact rowCells_one l u (List.mem_of_mem_drop hu)
  · intro wc hwc hfc
    rw [← hC, hcsl] at hwc
    have hown : OwnS wc B 68 2 (.slice (some ⟨g, 0, none⟩) n n) n (rowCells (l.take k ++ l.drop (k + 1))) := by
      refine ⟨?_, .inr ⟨g, n, _, rfl, hBg, hwc, Nat.le_refl _, by omega, ?_, ?_⟩⟩
      · rw [rowCells_len, List.length_append, List.length_take, List.length_drop, HNN.out]; omega
      · simp only [List.size_toArray, hl2]; omega
      · rw [List.toList_toArray, hsp, rowCells_append, rowCells_take, rowCells_drop]
    have HOW := Lib.hid hown
    have HFR : Hid (Frm (fun x => (Value.slice (some (⟨g, 0, none⟩ : Addr)) (n + 1) cap).ownBlock = some x) w wc) := Lib.hid ((Frm.refl _ w).drew.then hfc fun x hx e => by subst e; rfl)
    clear hown hwc hfc hsp hmid hcur htk hlen1 hC hl2
    generalize (if cap = k + 1 then some (⟨g, 0, none⟩ : Addr) else some ⟨g, (k + 1) * 2, none⟩) = d1
    generalize (if cap = k then some (⟨g, 0, none⟩ : Addr) else some ⟨g, k * 2, none⟩) = d2
    have z1 : IntKind.i64.wrap (n : Int) = (n : Int) := by rw [IntKind.wrap_i64]; omega
    have z2 : (0 : Int) ≤ (n : Int) := by omega
    have z3 : (n : Int) ≤ (cap : Int) := by omega
    go_wp2_with fail
    go_ret
    exact ⟨_, rfl, HOW.out, HFR.out, fun r hr => hr⟩
end Go.Proofs.Ytdgapagpmdfndaa
