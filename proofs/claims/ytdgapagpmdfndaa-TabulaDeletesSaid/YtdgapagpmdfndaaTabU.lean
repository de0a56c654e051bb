/- LAYER 13 (tabula): At. -/
import Derived.Test.YtdgapagpmdfndaaTabT
namespace Go.Proofs.Ytdgapagpmdfndaa
open Go.RowKit
set_option linter.unusedVariables false
def atV (l : List Row) (n : Int) : Int × Int × Bool := if 0 ≤ n ∧ n < l.length then ((l.getD n.toNat default).1, (l.getD n.toNat default).2, true) else (0, 0, false)
def atR (x : Int × Int × Bool) : Value := .tuple #[.int .i64 x.1, .int .i64 x.2.1, .bool x.2.2]
theorem atV_in {l : List Row} {m : Nat} (h : m < l.length) : atV l (m : Int) = ((l.getD m default).1, (l.getD m default).2, true) := by
  unfold atV
  rw [if_pos ⟨by omega, by omega⟩, Int.toNat_natCast]
theorem atV_out {l : List Row} {n : Int} (h : ¬ (0 ≤ n ∧ n < l.length)) : atV l n = (0, 0, false) := by unfold atV; rw [if_neg h]
theorem getD_app_l {α : Type} [Inhabited α] (l r : List α) (i : Nat) (h : i < l.length) : (l ++ r).getD i default = l.getD i default := by
  rw [List.getD_eq_getElem?_getD, List.getElem?_append_left h, ← List.getD_eq_getElem?_getD]
set_option maxRecDepth 100000 in
set_option maxHeartbeats 2000000 in
theorem at_any {w : World} {B lo h t : Nat} {k : Kid} (hlo : 1 ≤ lo) (a : TabAt w B lo h t k) (n : Int) :
    Calls Try.prog 19 #[.pointer (some ⟨t, 0, none⟩), .int .i64 n] w fun e w' => e = .returned (atR (atV k.L n)) ∧ Below w.heap.size w w' := by
  have c1 := a.cell
  have hm := a.tree.cell
  have hmany := a.many
  have HA := Lib.hid a
  clear a
  by_cases h0 : n < 0
  · rw [atV_out (by omega)]
    have hd0 : decide (n < 0) = true := by simpa using h0
    go_enter Try.func19, Try.ntmps19
    go_wp2_with fail
    go_ret3
    exact ⟨rfl, Below.refl _ _⟩
  by_cases hn : (k.L.length : Int) ≤ n
  · rw [atV_out (by omega)]
    go_enter Try.func19, Try.ntmps19
    go_wp2_with fail
    go_ret3
    exact ⟨rfl, Below.refl _ _⟩
  obtain ⟨m0, rfl⟩ : ∃ m : Nat, n = (m : Int) := ⟨n.toNat, by omega⟩
  have hm0 : m0 < k.L.length := by omega
  rw [atV_in hm0]
  obtain ⟨x, hx⟩ : ∃ x, x = k.L.getD m0 default := ⟨_, rfl⟩
  rw [← hx]
  have HI0 : Hid (TreeAt w B lo h k ∧ (h = 0 ∨ 1 ≤ k.e) ∧ k.e ≤ 8 ∧ x = k.L.getD m0 default ∧ m0 < k.L.length ∧ k.L.length ≤ 900000) :=
    Lib.hid ⟨HA.out.tree, HA.out.pos.imp id (by omega), HA.out.e8, hx, hm0, hmany⟩
  clear hx
  go_enter Try.func19, Try.ntmps19
  go_wp2_with fail
  go_loopw [1, 7] (fun nv p wr => ∃ (d : Nat) (c : Kid) (m : Nat), p = .pointer (some ⟨c.p, 0, none⟩) ∧ d ≤ h ∧ nv = .int .i64 (m : Int) ∧ w = wr ∧ m ≤ 900000 ∧ Hid (TreeAt w B lo d c ∧ (d = 0 ∨ 1 ≤ c.e) ∧ c.e ≤ 8 ∧ x = c.L.getD m default ∧ m < c.L.length ∧ c.L.length ≤ 900000)) (fun _ p _ => hgt w h (blockOf p))
  case atStart => exact ⟨h, k, m0, rfl, Nat.le_refl _, rfl, rfl, by omega, HI0⟩
  case round =>
    obtain ⟨d, c, m, rfl, hd, rfl, rfl, hmb, HC⟩ := hrel
    have HM := Lib.hid (hgt_of' hlo h HC.out.1 HC.out.2.1 hd)
    cases d with
    | zero =>
      obtain ⟨rv, sv, hn, he, hF⟩ := HC.out.1
      obtain ⟨a0, a1, a2⟩ := hn.cells
      obtain ⟨sa, sc, rfl⟩ := hn.ss.len
      have hmc := HC.out.2.2.2.2.1
      obtain ⟨g, cap, rfl, _, _, hcap⟩ := hn.rs.shape (by omega)
      have d1 := hn.rs.cellAt (m * 2) (by omega)
      have d2 := hn.rs.cellAt (m * 2 + 1) (by omega)
      rw [(rowCells_at c.L m hmc).1, ← HC.out.2.2.2.1] at d1
      rw [(rowCells_at c.L m hmc).2, ← HC.out.2.2.2.1] at d2
      have a1 : w.cell? ⟨c.p, 1, none⟩ = some (.slice sa 0 sc) := a1
      generalize c.L.length = lc at *
      have z1 : (m : Int) < (lc : Int) := by omega
      have z2 : (0 : Int) ≤ (m : Int) := by omega
      clear hn he
      go_wp2_with fail
      go_quiet (fail)
      go_wp2_with fail
      go_ret3
      exact ⟨rfl, below_drewN (Below.refl _ _) _⟩
    | succ d =>
      obtain ⟨rv, sv, ks, hn, he, hL, hF, hc, hap, hno⟩ := HC.out.1
      obtain ⟨n, hnn⟩ : ∃ n, n = ks.length := ⟨_, rfl⟩
      have hce : 1 ≤ c.e := by rcases HC.out.2.1 with h | h; cases h; exact h
      have hss := hn.ss
      rw [kidsP_len, ← hnn] at hss
      obtain ⟨g, cap, rfl, hBg, hgl, hnc, hcm⟩ := hss.shape (by omega)
      have hc1 : w.cell? ⟨c.p, 1, none⟩ = some (.slice (some ⟨g, 0, none⟩) n cap) := hn.cells.2.1
      have hn0 : 0 < n := by omega
      have hn8 : n ≤ 8 := by have := HC.out.2.2.1; omega
      have hel : ∀ j, j < n → w.cell? ⟨g, j, none⟩ = some (.pointer (some ⟨(ks.getD j default).p, 0, none⟩)) ∧ w.cell? ⟨(ks.getD j default).p, 2, none⟩ = some (.int .i64 ((ks.getD j default).L.length : Nat)) := fun j hj => by
        have d := hss.cellAt j (by omega)
        rw [ptrCells_at _ j (by rw [kidsP_len]; omega), kidsP_at _ _ (by omega)] at d
        exact ⟨d, (hc _ (getD_mem ks j (by omega))).1.cell⟩
      have HEL := Lib.hid hel
      have HCC := Lib.hid hc
      have HNE := Lib.hid (And.intro hL (And.intro he hnn))
      have hmc := HC.out.2.2.2.2.1
      have HI1 : Hid (x = (kidsL (ks.drop 0)).getD m default ∧ m < (kidsL (ks.drop 0)).length) := Lib.hid ⟨by rw [List.drop_zero, ← hL]; exact HC.out.2.2.2.1, by rw [List.drop_zero, ← hL]; exact hmc⟩
      have HLB : Hid (∀ c ∈ ks, c.L.length ≤ 900000) := Lib.hid fun c hc => kids_bound (N := 900000) (by rw [← hL]; exact HC.out.2.2.2.2.2) _ (List.mem_map.2 ⟨c, hc, rfl⟩)
      clear hn hc hap hno hss hL he hnn hF hce hel
      go_wp2_with fail
      go_loopw [1, 8] (fun nv i w2 => ∃ j q : Nat, j < n ∧ q ≤ m ∧ nv = .int .i64 (q : Int) ∧ i = .int .i64 (j : Int) ∧ w = w2 ∧ Hid (x = (kidsL (ks.drop j)).getD q default ∧ q < (kidsL (ks.drop j)).length)) (fun _ i _ => n - (intOf i).toNat)
      case atStart => exact ⟨0, m, hn0, Nat.le_refl _, rfl, rfl, rfl, HI1⟩
      case round =>
        obtain ⟨j, q, hj, hqm, rfl, rfl, rfl, HJ⟩ := hrel
        obtain ⟨x1, x2⟩ := HEL.out j hj
        have hjk : j < ks.length := by rw [← HNE.out.2.2]; exact hj
        have hdr := drop_getD ks j hjk
        have hkl : kidsL (ks.drop j) = (ks.getD j default).L ++ kidsL (ks.drop (j + 1)) := by rw [hdr]; simp [kidsL]
        have hcj := HCC.out _ (getD_mem ks j hjk)
        have hlj := HLB.out _ (getD_mem ks j hjk)
        obtain ⟨hx, hq⟩ := HJ.out
        rw [hkl] at hx hq
        rw [List.length_append] at hq
        obtain ⟨c', hc'⟩ : ∃ c', c' = ks.getD j default := ⟨_, rfl⟩
        rw [← hc'] at x1 x2 hx hq hcj hlj
        have z3 : (j : Int) < (n : Int) := by omega
        have z4 : (0 : Int) ≤ (j : Int) := by omega
        by_cases hge : c'.L.length ≤ q
        · rw [getD_app_r _ _ _ hge] at hx
          obtain ⟨q', rfl⟩ : ∃ q', q = c'.L.length + q' := ⟨q - c'.L.length, by omega⟩
          rw [Nat.add_sub_cancel_left] at hx
          have hq' : q' < (kidsL (ks.drop (j + 1))).length := by omega
          have hj1 : j + 1 < n := by
            rcases Nat.lt_or_ge (j + 1) n with h | h
            · exact h
            · rw [List.drop_of_length_le (by rw [← HNE.out.2.2]; exact h)] at hq'
              simp [kidsL] at hq'
          have HJ2 : Hid (x = (kidsL (ks.drop (j + 1))).getD q' default ∧ q' < (kidsL (ks.drop (j + 1))).length) := Lib.hid ⟨hx, hq'⟩
          have z5 : ((c'.L.length : Nat) : Int) ≤ ((c'.L.length + q' : Nat) : Int) := by omega
          generalize c'.L.length = lj at *
          generalize c'.p = pj at *
          clear hx hq hq' hkl hdr hc' hcj HJ
          go_wp2_with fail
          go_roundw
          case rel => exact ⟨j + 1, q', hj1, by omega, by go_num, by go_num, trivial, HJ2⟩
          case measure => simp [intOf]; omega
        · have hlt : q < c'.L.length := by omega
          rw [getD_app_l _ _ _ hlt] at hx
          have HC2 : Hid (TreeAt w B lo d c' ∧ (d = 0 ∨ 1 ≤ c'.e) ∧ c'.e ≤ 8 ∧ x = c'.L.getD q default ∧ q < c'.L.length ∧ c'.L.length ≤ 900000) := Lib.hid ⟨hcj.1, .inr (Nat.le_trans hlo hcj.2.1), hcj.2.2, hx, hlt, hlj⟩
          have HM2 := Lib.hid (hgt_of' hlo h hcj.1 (.inr (Nat.le_trans hlo hcj.2.1)) (by omega))
          have z5 : ¬ ((c'.L.length : Nat) : Int) ≤ (q : Int) := by omega
          clear hx hq hkl hdr hc' hcj HJ
          go_wp2_with fail
          go_roundw
          case rel => exact ⟨d, c', q, rfl, by omega, rfl, trivial, by omega, HC2⟩
          case measure =>
            show hgt w h c'.p < hgt w h c.p
            rw [HM2.out, HM.out]
            exact Nat.lt_succ_self _
end Go.Proofs.Ytdgapagpmdfndaa
