/- LAYER 13 (tabula): Load. -/
import Derived.Test.YtdgapagpmdfndaaTabZc
import Derived.Test.YtdgapagpmdfndaaTabZd
namespace Go.Proofs.Ytdgapagpmdfndaa
open Go.RowKit
set_option linter.unusedVariables false
/-- What Load leaves. -/
def LoadOk (l : List Row) (w : World) : Ending → World → Prop := fun e w' => Below w.heap.size w w' ∧
  ((Sorted l ∧ ∃ t F, e = .returned (.tuple #[.pointer (some ⟨t, 0, none⟩), .int .i64 0]) ∧ TabL w' w.heap.size t l F) ∨ (¬ Sorted l ∧ e = .returned (.tuple #[.pointer none, .int .i64 130])))
set_option maxRecDepth 100000 in
set_option maxHeartbeats 2000000 in
theorem load_L {w : World} {F : Nat → Prop} {lv : Value} {l : List Row} (hd : DocAt w F lv l) (hl : l.length ≤ 800000) :
    Calls Try.prog 25 #[lv] w (LoadOk l w) := by
  obtain ⟨a, cap, rfl, hcell⟩ := hd.val
  have HC := Lib.hid hcell
  have HNEW := Lib.hid (new_L w w.heap.size (Nat.le_refl _))
  obtain ⟨n, hnn⟩ : ∃ n, n = l.length := ⟨_, rfl⟩
  have HN := Lib.hid hnn
  rw [← hnn] at hl ⊢
  clear hcell hd hnn
  go_enter Try.func25, Try.ntmps25
  go_wp2_with fail
  refine HNEW.out.mono ?_
  rintro e w1 ⟨t, F1, rfl, ht, _, hb1⟩
  have H0 : Hid ((∃ F', TabL w1 w.heap.size t (l.take 0) F') ∧ Below w.heap.size w w1) := Lib.hid ⟨⟨F1, by simpa using ht⟩, hb1⟩
  clear ht hb1
  go_wp2_with fail
  go_loopw [10] (fun iv wr => ∃ i : Nat, i ≤ n ∧ iv = .int .i64 (i : Int) ∧ Hid ((∃ F', TabL wr w.heap.size t (l.take i) F') ∧ Below w.heap.size w wr)) (fun iv _ => n - (intOf iv).toNat)
  case atStart => exact ⟨0, Nat.zero_le _, rfl, H0⟩
  case round =>
    obtain ⟨i, hi, rfl, HM⟩ := hrel
    by_cases hin : i < n
    · obtain ⟨b, off, hab, hblt, _, hcx⟩ := HC.out (by rw [← HN.out]; omega)
      subst hab
      have hil : i < l.length := by rw [← HN.out]; exact hin
      obtain ⟨⟨F', ht⟩, hB⟩ := HM.out
      have x1 := (hB.cell (p := ⟨b, off + i * 2, none⟩) (by exact hblt)).trans (hcx i hil).1
      have x2 := (hB.cell (p := ⟨b, off + i * 2 + 1, none⟩) (by exact hblt)).trans (hcx i hil).2
      obtain ⟨hst, hbf⟩ : l.take (i + 1) = l.take i ++ [l.getD i default] ∧ True := ⟨take_snoc l i hil, trivial⟩
      have hxl : ∀ j, i = j + 1 → wr.cell? ⟨b, off + j * 2, none⟩ = some (.int .i64 (l.getD j default).1) := fun j hj => (hB.cell (p := ⟨b, off + j * 2, none⟩) (by exact hblt)).trans (hcx j (by omega)).1
      have hll : (l.take i).length ≤ 800000 := by rw [List.length_take]; omega
      have hput : Sorted (l.take (i + 1)) → insL (l.take i) (l.getD i default).1 (l.getD i default).2 = l.take (i + 1) := fun hs => by
        rw [hst] at hs ⊢
        exact insL_last fun y hy => (sorted_app hs).2.2 y hy _ (by simp)
      have hbr : b < wr.heap.size := Nat.lt_of_lt_of_le hblt hB.size
      have hsr : ∀ j, i = j + 1 → ¬ (l.getD i default).1 ≤ (l.getD j default).1 → Sorted (l.take (i + 1)) := fun j hj hlt => by
        rw [hst]
        refine sorted_snoc ht.srt fun y hy => ?_
        have e0 := take_snoc l j (by omega)
        have hs := ht.srt
        rw [hj, e0] at hy hs
        rcases List.mem_append.1 hy with hy | hy
        · have := (sorted_app hs).2.2 y hy _ (List.mem_singleton.2 rfl); omega
        · obtain rfl := List.mem_singleton.1 hy; omega
      have hs0 : i = 0 → Sorted (l.take (i + 1)) := fun h => by rw [hst, h]; exact List.pairwise_singleton _ _
      have hno : ∀ j, i = j + 1 → (l.getD i default).1 ≤ (l.getD j default).1 → ¬ Sorted l := fun j hj h hs => by
        have := sorted_get hs (i := j) (j := i) (by omega) hil
        omega
      obtain ⟨x, hx⟩ : ∃ x, x = l.getD i default := ⟨_, rfl⟩
      rw [← hx] at x1 x2 hput hsr hno
      have hbx : Below w.heap.size w (wr.alloc (.cells #[.int .i64 x.1, .int .i64 x.2] 46)) := hB.alloc hB.size _
      have hx0 : (wr.alloc (.cells #[.int .i64 x.1, .int .i64 x.2] 46)).heap[wr.heap.size]? = some (.cells #[.int .i64 x.1, .int .i64 x.2] 46 (0, 0)) := heap_alloc_new _ _
      have htx := ht.below ((Below.refl _ wr).alloc (Nat.le_refl _) (.cells #[.int .i64 x.1, .int .i64 x.2] 46))
      have hyl : ∀ j, i = j + 1 → (wr.alloc (.cells #[.int .i64 x.1, .int .i64 x.2] 46)).cell? ⟨b, off + j * 2, none⟩ = some (.int .i64 (l.getD j default).1) := fun j hj =>
        (((Below.refl wr.heap.size wr).alloc (Nat.le_refl _) _).cell (p := ⟨b, off + j * 2, none⟩) (by exact hbr)).trans (hxl j hj)
      have HQ := Lib.hid (And.intro hput (And.intro hsr (And.intro hs0 (And.intro hno (And.intro hbx (And.intro hx0 (And.intro htx hyl)))))))
      clear hput hsr hs0 hno hbx hx0 htx hyl hxl hst hx ht hB HM hcx hbf
      go_wp2_with fail
      generalize World.alloc wr _ = w2 at *
      obtain ⟨hput, hsr, hs0, hno, hbx, hx0, htx, hyl⟩ := HQ.out
      have k0 : w2.cell? ⟨wr.heap.size, 0, none⟩ = some (.int .i64 x.1) := by rw [cell_of_row _ _ 0 _ _ _ hx0]; rfl
      have k1 : w2.cell? ⟨wr.heap.size, 1, none⟩ = some (.int .i64 x.2) := by rw [cell_of_row _ _ 1 _ _ _ hx0]; rfl
      clear x1 x2
      have hwl : wr.heap.size < w2.heap.size := lt_of_block hx0
      have hll2 : (l.take i).length < 900000 := by omega
      rcases Nat.eq_zero_or_pos i with h0 | h0
      · have hs := hs0 h0
        have HS := Lib.hid (And.intro hs (hput hs))
        have HB2 := Lib.hid (And.intro hbx htx)
        have HI := Lib.hid h0
        have g1 : decide (0 < i) = false := by simp [h0]
        have g2 : decide ((0 : Int) < (i : Int)) = false := by simp [h0]
        clear hput hsr hs0 hno hbx hx0 htx hyl HQ hs h0
        go_quiet (fail)
        have HB3 := Lib.hid (below_drewN HB2.out.1 nq)
        have HT3 := Lib.hid (HB2.out.2.below (below_drewN (Below.refl _ _) nq))
        have HP := Lib.hid (put_L HT3.out hll2 HB3.out.size x.1 x.2)
        have k0 := ((below_drewN (Below.refl w2.heap.size w2) nq).cell (p := ⟨wr.heap.size, 0, none⟩) (by exact hwl)).trans k0
        have k1 := ((below_drewN (Below.refl w2.heap.size w2) nq).cell (p := ⟨wr.heap.size, 1, none⟩) (by exact hwl)).trans k1
        generalize World.drewN w2 nq = w3 at *
        clear g1 g2
        go_wp2_with fail
        refine HP.out.mono ?_
        rintro e w4 ⟨rfl, hs4⟩
        have hb4 := HB3.out.trans (hs4.below HT3.out HB3.out.size)
        obtain ⟨F4, ht4, _, _⟩ := hs4
        rw [HS.out.2] at ht4
        have H4 : Hid ((∃ F', TabL w4 w.heap.size t (l.take (i + 1)) F') ∧ Below w.heap.size w w4) := Lib.hid ⟨⟨F4, ht4⟩, hb4⟩
        clear ht4 hb4
        go_wp2_with fail
        go_roundw
        case rel => exact ⟨i + 1, by omega, by go_num, H4⟩
        case measure => simp [intOf]; omega
      · obtain ⟨j, hj⟩ : ∃ j, i = j + 1 := ⟨i - 1, by omega⟩
        have yc := hyl j hj
        have g1 : decide (0 < i) = true := by simp [h0]
        have g2 : decide ((0 : Int) < (i : Int)) = true := by simp; omega
        have hno2 := hno j hj
        have hsr2 := hsr j hj
        have z1 : (j : Int) < (n : Int) := by omega
        have z2 : (0 : Int) ≤ (j : Int) := by omega
        have z3 : IntKind.i64.wrap ((i : Int) - 1) = (j : Int) := by rw [IntKind.wrap_i64]; omega
        have HB2 := Lib.hid (And.intro hbx htx)
        have HP2 := Lib.hid (And.intro hput (And.intro hno2 hsr2))
        clear hput hsr hs0 hno hbx hx0 htx hyl HQ hno2 hsr2 h0
        have HJ := Lib.hid hj
        clear hj
        generalize l.getD j default = y at *
        by_cases hk : x.1 ≤ y.1
        · have HS := Lib.hid (HP2.out.2.1 hk)
          clear HP2
          go_quiet (fail)
          have HB3 := Lib.hid (below_drewN HB2.out.1 nq)
          generalize World.drewN w2 nq = w3 at *
          clear g1 g2 z3
          go_wp2_with fail
          go_ret2
          exact ⟨HB3.out, .inr ⟨HS.out, rfl⟩⟩
        · have HS := Lib.hid (And.intro (HP2.out.2.2 (by omega)) (HP2.out.1 (HP2.out.2.2 (by omega))))
          have hk2 : decide (x.1 ≤ y.1) = false := by simpa using hk
          clear HP2
          go_quiet (fail)
          have HB3 := Lib.hid (below_drewN HB2.out.1 nq)
          have HT3 := Lib.hid (HB2.out.2.below (below_drewN (Below.refl _ _) nq))
          have HP := Lib.hid (put_L HT3.out hll2 HB3.out.size x.1 x.2)
          have k0 := ((below_drewN (Below.refl w2.heap.size w2) nq).cell (p := ⟨wr.heap.size, 0, none⟩) (by exact hwl)).trans k0
          have k1 := ((below_drewN (Below.refl w2.heap.size w2) nq).cell (p := ⟨wr.heap.size, 1, none⟩) (by exact hwl)).trans k1
          generalize World.drewN w2 nq = w3 at *
          clear g1 g2 z3 hk2
          go_wp2_with fail
          refine HP.out.mono ?_
          rintro e w4 ⟨rfl, hs4⟩
          have hb4 := HB3.out.trans (hs4.below HT3.out HB3.out.size)
          obtain ⟨F4, ht4, _, _⟩ := hs4
          rw [HS.out.2] at ht4
          have H4 : Hid ((∃ F', TabL w4 w.heap.size t (l.take (i + 1)) F') ∧ Below w.heap.size w w4) := Lib.hid ⟨⟨F4, ht4⟩, hb4⟩
          clear ht4 hb4
          go_wp2_with fail
          go_roundw
          case rel => exact ⟨i + 1, by omega, by go_num, H4⟩
          case measure => simp [intOf]; omega
    · obtain rfl : i = n := by omega
      have HE : Hid (Sorted l ∧ (∃ F', TabL wr w.heap.size t l F') ∧ Below w.heap.size w wr) := Lib.hid (by
        obtain ⟨⟨F', ht⟩, hB⟩ := HM.out
        rw [HN.out, List.take_length] at ht
        exact ⟨ht.srt, ⟨F', ht⟩, hB⟩)
      clear HM
      go_wp2_with fail
      go_ret2
      obtain ⟨h1, ⟨F', h2⟩, h3⟩ := HE.out
      exact ⟨h3, .inl ⟨h1, t, F', rfl, h2⟩⟩
end Go.Proofs.Ytdgapagpmdfndaa
