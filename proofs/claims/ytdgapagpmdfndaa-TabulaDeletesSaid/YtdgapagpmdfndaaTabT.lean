/- LAYER 13 (tabula): Rank. -/
import Derived.Test.YtdgapagpmdfndaaTabI
namespace Go.Proofs.Ytdgapagpmdfndaa
open Go.RowKit
set_option linter.unusedVariables false
def rankL (l : List Row) (key : Int) : Nat := (l.filter (fun x => decide (x.1 < key))).length
theorem rankL_append (a b : List Row) (key : Int) : rankL (a ++ b) key = rankL a key + rankL b key := by simp [rankL]
theorem rankL_below {l : List Row} {key : Int} (h : ∀ x ∈ l, x.1 < key) : rankL l key = l.length := by
  unfold rankL; rw [filter_all fun x hx => by simpa using h x hx]
theorem rankL_above {l : List Row} {key : Int} (h : ∀ x ∈ l, key ≤ x.1) : rankL l key = 0 := by
  unfold rankL; rw [filter_none fun x hx => by have := h x hx; simp; omega]; rfl
theorem rankL_cut {l : List Row} (h : Sorted l) {key : Int} {t : Nat} (hc : IsCut l key t) : t = rankL l key := by
  obtain ⟨h1, h2⟩ := cut_split h hc
  have e : rankL l key = rankL (l.take t) key + rankL (l.drop t) key := by rw [← rankL_append, List.take_append_drop]
  rw [e, rankL_below h1, rankL_above h2, List.length_take]
  have := hc.1
  omega
theorem rankL_le (l : List Row) (key : Int) : rankL l key ≤ l.length := List.length_filter_le _ _
set_option maxRecDepth 100000 in
set_option maxHeartbeats 2000000 in
theorem rank_any {w : World} {B lo h t : Nat} {k : Kid} (hlo : 1 ≤ lo) (a : TabAt w B lo h t k) (key : Int) :
    Calls Try.prog 20 #[.pointer (some ⟨t, 0, none⟩), .int .i64 key] w fun e w' => e = .returned (.int .i64 (rankL k.L key : Nat)) ∧ Below w.heap.size w w' := by
  have hbx : Below w.heap.size w (w.alloc (.cells #[.int .i64 key] 3)) := (Below.refl _ _).alloc (Nat.le_refl _) _
  have hx0 : (w.alloc (.cells #[.int .i64 key] 3)).heap[w.heap.size]? = some (.cells #[.int .i64 key] 3 (0, 0)) := heap_alloc_new _ _
  have kx : (w.alloc (.cells #[.int .i64 key] 3)).cell? ⟨w.heap.size, 0, none⟩ = some (.int .i64 key) := by rw [cell_of_row _ _ 0 _ _ _ hx0]; rfl
  have htl : t < w.heap.size := lt_of_block a.row
  have c1 := (hbx.cell (p := ⟨t, 0, none⟩) (by exact htl)).trans a.cell
  have HA := Lib.hid a
  obtain ⟨R, hR⟩ : ∃ R, R = rankL k.L key := ⟨_, rfl⟩
  have hRl : R ≤ 900000 := by rw [hR]; exact Nat.le_trans (rankL_le _ _) a.many
  rw [← hR]
  have HR := Lib.hid hR
  have HBX := Lib.hid (And.intro hbx hx0)
  clear a hR hbx hx0
  have hs0 : (w.alloc (.cells #[.int .i64 key] 3)).heap.size = w.heap.size + 1 := by simp
  have hbX : Hid (∀ wr, Below (w.heap.size + 1) (w.alloc (.cells #[.int .i64 key] 3)) wr → Below w.heap.size w wr ∧ wr.cell? ⟨w.heap.size, 0, none⟩ = some (.int .i64 key)) := Lib.hid fun wr hb =>
    ⟨HBX.out.1.trans (hb.mono (Nat.le_succ _)), (hb.cell (p := ⟨w.heap.size, 0, none⟩) (by exact Nat.lt_succ_self _)).trans kx⟩
  have hb00 : Below (w.heap.size + 1) (w.alloc (.cells #[.int .i64 key] 3)) (w.alloc (.cells #[.int .i64 key] 3)) := Below.refl _ _
  go_enter Try.func20, Try.ntmps20
  go_wp2_with fail
  go_quiet (fail)
  have hb01 := below_drewN hb00 nq
  generalize World.drewN _ nq = w0 at *
  go_wp2_with fail
  have HI0 : Hid (TreeAt w0 B lo h k ∧ (h = 0 ∨ 1 ≤ k.e) ∧ k.e ≤ 8 ∧ Sorted k.L ∧ R = 0 + rankL k.L key ∧ k.L.length ≤ 900000 ∧ Below (w.heap.size + 1) (w.alloc (.cells #[.int .i64 key] 3)) w0) :=
    Lib.hid ⟨HA.out.tree.below (hbX.out w0 hb01).1, HA.out.pos.imp id (by omega), HA.out.e8, HA.out.srt, by rw [Nat.zero_add]; exact HR.out, HA.out.many, hb01⟩
  clear hb01 hb00 c1 kx
  go_loopw [5, 6] (fun n p wr => ∃ (d : Nat) (c : Kid) (m : Nat), p = .pointer (some ⟨c.p, 0, none⟩) ∧ d ≤ h ∧ n = .int .i64 (m : Int) ∧ m ≤ R ∧
    Hid (TreeAt wr B lo d c ∧ (d = 0 ∨ 1 ≤ c.e) ∧ c.e ≤ 8 ∧ Sorted c.L ∧ R = m + rankL c.L key ∧ c.L.length ≤ 900000 ∧ Below (w.heap.size + 1) (w.alloc (.cells #[.int .i64 key] 3)) wr)) (fun _ p wr => hgt wr h (blockOf p))
  case atStart => exact ⟨h, k, 0, rfl, Nat.le_refl _, rfl, Nat.zero_le _, HI0⟩
  case round =>
    obtain ⟨d, c, m, rfl, hd, rfl, hmR, HC⟩ := hrel
    obtain ⟨hbw, kx⟩ := hbX.out wr HC.out.2.2.2.2.2.2
    have HM := Lib.hid (hgt_of' hlo h HC.out.1 HC.out.2.1 hd)
    cases d with
    | zero =>
      obtain ⟨rv, sv, hn, he, hF⟩ := HC.out.1
      have hrl := rankL_le c.L key
      have HCUT := Lib.hid (cut_any 42 w.heap.size key hn.rs (by have := HC.out.2.2.1; omega) kx (fun i j hij hj => by
        rcases Nat.eq_or_lt_of_le hij with rfl | hlt
        · exact Int.le_refl _
        · exact Int.le_of_lt (sorted_get HC.out.2.2.2.1 hlt hj)) (enters_fn Try.func42 (by kernel_rfl) rfl) (fun w2 x hk => rank1_any w2 x w.heap.size key hk))
      obtain ⟨a0, a1, a2⟩ := hn.cells
      obtain ⟨ra, rc, rfl⟩ := hn.rs.len
      obtain ⟨sa, sc, rfl⟩ := hn.ss.len
      have a1 : wr.cell? ⟨c.p, 1, none⟩ = some (.slice sa 0 sc) := a1
      have HBW := Lib.hid hbw
      clear hn he hbw
      go_wp2_with fail
      refine HCUT.out.mono ?_
      rintro e w1 ⟨⟨q, rfl, hq⟩, hb1⟩
      have hq2 := rankL_cut HC.out.2.2.2.1 hq
      have hsum : R = m + q := by rw [hq2]; exact HC.out.2.2.2.2.1
      have hb2 := HBW.out.trans (hb1.mono HBW.out.size)
      have HSM := Lib.hid hsum
      have hqb : q ≤ 900000 := by omega
      clear hq hq2 hb1 hsum
      go_wp2_with fail
      go_ret
      refine ⟨?_, hb2⟩
      rw [HSM.out]
      rfl
    | succ d =>
      obtain ⟨rv, sv, ks, hn, he, hL, hF, hc, hap, hno⟩ := HC.out.1
      have hce : 1 ≤ c.e := by rcases HC.out.2.1 with h | h; cases h; exact h
      have hs := HC.out.2.2.2.1
      rw [hL] at hs
      have hne : ∀ c ∈ ks, c.L ≠ [] := fun c hcm => (hc c hcm).1.pos hlo (Nat.le_trans hlo (hc c hcm).2.1)
      have HSUB := Lib.hid (sub_any hlo hn hc (by omega) (by have := HC.out.2.2.1; omega) (lasts_mono hs hne) key)
      obtain ⟨n, hnn⟩ : ∃ n, n = ks.length := ⟨_, rfl⟩
      have hss := hn.ss
      rw [kidsP_len, ← hnn] at hss
      obtain ⟨g, cap, rfl, hBg, hgl, hnc, hcm⟩ := hss.shape (by omega)
      have hc1 := hn.cells.2.1
      have HNo := Lib.hid hn
      have HCC := Lib.hid hc
      have HNE := Lib.hid (And.intro hs (And.intro hne (And.intro hL (And.intro he hnn))))
      have HSS := Lib.hid hss
      have HBW := Lib.hid hbw
      have hn0 : 0 < n := by omega
      have hn8 : n ≤ 8 := by have := HC.out.2.2.1; omega
      clear hn hc hap hno hne hs hss hbw hL he hnn hF hce
      go_wp2_with fail
      refine HSUB.out.mono ?_
      rintro e w1 ⟨⟨q, rfl, hq⟩, hb1⟩
      obtain ⟨hs, hne, hL, he, hnn⟩ := HNE.out
      obtain ⟨hsp, hA, hD, hSc⟩ := sub_split hs hne hq
      have hqn : q < n := by rw [hnn]; exact hq.1
      have hqk : q < ks.length := hq.1
      obtain ⟨c', hc'⟩ : ∃ c', c' = ks.getD q default := ⟨_, rfl⟩
      have hcm' : c' ∈ ks := by rw [hc']; exact getD_mem _ _ hqk
      rw [← hc'] at hsp hSc
      have hrank : rankL c.L key = (kidsL (ks.take q)).length + rankL c'.L key := by
        rw [hL, hsp, rankL_append, rankL_append, rankL_below hA, rankL_above fun x hx => Int.le_of_lt (hD x hx), Nat.add_zero]
      have hRm : R = m + (kidsL (ks.take q)).length + rankL c'.L key := by have := HC.out.2.2.2.2.1; omega
      have hN1 := HNo.out.below hb1
      have hss1 := hN1.ss
      rw [kidsP_len, ← hnn] at hss1
      have hel : ∀ j, j < n → w1.cell? ⟨g, j, none⟩ = some (.pointer (some ⟨(ks.getD j default).p, 0, none⟩)) ∧ w1.cell? ⟨(ks.getD j default).p, 2, none⟩ = some (.int .i64 ((ks.getD j default).L.length : Nat)) := fun j hj => by
        have d := (HSS.out.below hb1).cellAt j (by omega)
        rw [ptrCells_at _ j (by rw [kidsP_len]; omega), kidsP_at _ _ (by omega)] at d
        exact ⟨d, ((HCC.out _ (getD_mem ks j (by omega))).1.below hb1).cell⟩
      have hdq := (hel q hqn).1
      rw [← hc'] at hdq
      have hc1' : w1.cell? ⟨c.p, 1, none⟩ = some (.slice (some ⟨g, 0, none⟩) n cap) := (hb1.cell (p := ⟨c.p, 1, none⟩) (by exact lt_of_block HNo.out.row)).trans hc1
      have hstep : ∀ j, j < q → (kidsL (ks.take (j + 1))).length = (kidsL (ks.take j)).length + (ks.getD j default).L.length ∧ (kidsL (ks.take (j + 1))).length ≤ (kidsL (ks.take q)).length := fun j hj => by
        have e := take_snoc ks j (by omega)
        refine ⟨by rw [e, kidsL_append, List.length_append]; simp [kidsL], ?_⟩
        have e2 : ks.take q = ks.take (j + 1) ++ (ks.take q).drop (j + 1) := by
          have := (List.take_append_drop (j + 1) (ks.take q)).symm
          rwa [List.take_take, Nat.min_eq_left (by omega)] at this
        rw [e2, kidsL_append, List.length_append]
        omega
      have HEL := Lib.hid hel
      have HST := Lib.hid hstep
      have htc := (HCC.out c' hcm').1.below hb1
      have hb3 : Below (w.heap.size + 1) (w.alloc (.cells #[.int .i64 key] 3)) w1 := HC.out.2.2.2.2.2.2.trans (hb1.mono (by have := HC.out.2.2.2.2.2.2.size; rw [hs0] at this; exact this))
      have hcl : c'.L.length ≤ 900000 := by
        have := HC.out.2.2.2.2.2.1
        rw [hL, hsp] at this
        simp only [List.length_append] at this
        omega
      have HC2 : Hid (TreeAt w1 B lo d c' ∧ (d = 0 ∨ 1 ≤ c'.e) ∧ c'.e ≤ 8 ∧ Sorted c'.L ∧ R = m + (kidsL (ks.take q)).length + rankL c'.L key ∧ c'.L.length ≤ 900000 ∧ Below (w.heap.size + 1) (w.alloc (.cells #[.int .i64 key] 3)) w1) :=
        Lib.hid ⟨htc, .inr (Nat.le_trans hlo (HCC.out c' hcm').2.1), (HCC.out c' hcm').2.2, hSc, hRm, hcl, hb3⟩
      have HM2 := Lib.hid (hgt_of' hlo h htc (.inr (Nat.le_trans hlo (HCC.out c' hcm').2.1)) (by omega))
      have hT : m + (kidsL (ks.take q)).length ≤ R := by omega
      have z1 : (q : Int) ≤ (cap : Int) := by omega
      have z2 : (0 : Int) ≤ (q : Int) := by omega
      have z3 : (q : Int) < (n : Int) := by omega
      have hk0 : (kidsL (ks.take 0)).length = 0 := by simp [kidsL]
      have HK0 := Lib.hid hk0
      obtain ⟨T, hTT⟩ : ∃ T, T = fun j => (kidsL (ks.take j)).length := ⟨_, rfl⟩
      have HT0 : Hid (T 0 = 0 ∧ (∀ j, j < q → T (j + 1) = T j + (ks.getD j default).L.length ∧ T (j + 1) ≤ T q)) := Lib.hid (by rw [hTT]; exact ⟨hk0, hstep⟩)
      have hTq : m + T q ≤ R := by rw [hTT]; exact hT
      have HTQ : Hid (T q = (kidsL (ks.take q)).length) := Lib.hid (by rw [hTT])
      clear hTT hk0 hT hs hne hL he hnn hsp hA hD hSc hqk hc' hcm' hrank hRm hN1 hss1 hel hstep htc hb3 hcl hq hc1
      go_wp2_with fail
      go_loopw [5, 30] (fun nv i w2 => ∃ j : Nat, j ≤ q ∧ nv = .int .i64 ((m : Int) + (T j : Nat)) ∧ i = .int .i64 (j : Int) ∧ w1 = w2) (fun _ i _ => q - (intOf i).toNat)
      case atStart => exact ⟨0, Nat.zero_le _, by rw [HT0.out.1]; simp, rfl, rfl⟩
      case round =>
        obtain ⟨j, hj, rfl, rfl, rfl⟩ := hrel
        by_cases hjq : j < q
        · obtain ⟨x1, x2⟩ := HEL.out j (by omega)
          obtain ⟨x3, x4⟩ := HT0.out.2 j hjq
          have x5 : T (j + 1) ≤ 900000 := by omega
          generalize (ks.getD j default).L.length = lj at *
          generalize (ks.getD j default).p = pj at *
          go_wp2_with fail
          go_roundw
          case rel => exact ⟨j + 1, by omega, by rw [x3]; go_num, by go_num, trivial⟩
          case measure => simp [intOf]; omega
        · obtain rfl : j = q := by omega
          go_wp2_with fail
          go_roundw
          case rel => exact ⟨d, c', m + T j, rfl, by omega, by go_num, hTq, by rw [HTQ.out]; exact HC2⟩
          case measure =>
            show hgt w1 h c'.p < hgt wr h c.p
            rw [HM2.out, HM.out]
            exact Nat.lt_succ_self _
end Go.Proofs.Ytdgapagpmdfndaa
