/- WALK OF THE STATEMENT SpansOrders. -/
import Derived.Test.YtahdlbckcddeeaaSpansI
import Derived.Test.YtahdlbckcddeeaaKit2
import Derived.Deep.CutRange
namespace Go.Proofs.Ytahdlbckcddeeaa
open Go.RowKit
set_option linter.unusedVariables false
def PairAt (w : World) (b : Nat) (x : Int × Int) : Prop := w.cell? ⟨b, 0, none⟩ = some (.int .i64 x.1) ∧ w.cell? ⟨b, 1, none⟩ = some (.int .i64 x.2)
theorem PairAt.below {w w' : World} {b : Nat} {x : Int × Int} (h : PairAt w b x) (hb : Below w.heap.size w w') : PairAt w' b x := ⟨(hb.cell (by exact block_lt_of_cell h.1)).trans h.1, (hb.cell (by exact block_lt_of_cell h.2)).trans h.2⟩
def heldT (l : List Bool) (k : Nat) : Nat := ((l.take k).filter id).length
theorem heldT_succ (l : List Bool) (k : Nat) (h : k < l.length) : heldT l (k + 1) = heldT l k + (if l.getD k false then 1 else 0) := by
  unfold heldT
  rw [List.take_add_one, List.filter_append, List.length_append]
  congr 1
  rw [List.getElem?_eq_getElem h, List.getD_eq_getElem?_getD, List.getElem?_eq_getElem h]
  cases l[k] <;> simp
theorem held_few (x y : Int × Int) : x.1 < x.2 → y.1 < y.2 → heldT [inB x y, inB y x, aheadB x y, aheadB y x] 4 ≤ 1 := by
  intro h1 h2
  unfold heldT inB aheadB
  by_cases a : y.1 < x.1 ∧ x.2 < y.2
  · have b : ¬ (x.1 < y.1 ∧ y.2 < x.2) := by omega
    have c : ¬ x.2 < y.1 := by omega
    have d : ¬ y.2 < x.1 := by omega
    simp [a, b, c, d]
  · by_cases b : x.1 < y.1 ∧ y.2 < x.2
    · have c : ¬ x.2 < y.1 := by omega
      have d : ¬ y.2 < x.1 := by omega
      simp [a, b, c, d]
    · by_cases c : x.2 < y.1
      · have d : ¬ y.2 < x.1 := by omega
        simp [a, b, c, d]
      · by_cases d : y.2 < x.1 <;> simp [a, b, c, d]
theorem in_trans (x y z : Int × Int) : inB x y = true → inB y z = true → inB x z = true := by
  unfold inB
  simp only [decide_eq_true_eq]
  omega
theorem ahead_trans (x y z : Int × Int) (h : ¬ y.2 ≤ y.1) : aheadB x y = true → aheadB y z = true → aheadB x z = true := by
  unfold aheadB
  simp only [decide_eq_true_eq]
  omega
set_option maxRecDepth 100000 in
set_option maxHeartbeats 4000000 in
theorem spansOrders_any (x y z : Int × Int) (w : World) : Calls Try.prog 7 #[.agg #[.int .i64 x.1, .int .i64 x.2], .agg #[.int .i64 y.1, .int .i64 y.2], .agg #[.int .i64 z.1, .int .i64 z.2]] w fun e w' => e = .returned (.bool true) ∧ Below w.heap.size w w' := by
  go_enter Try.func7, Try.ntmps7
  go_upto_region 1 with fail
  go_cut [7, 8, 9] from 13 to 15 (fun pa pb pc wx => ∃ A B C : Nat, pa = .pointer (some ⟨A, 0, none⟩) ∧ pb = .pointer (some ⟨B, 0, none⟩) ∧ pc = .pointer (some ⟨C, 0, none⟩) ∧ PairAt wx A x ∧ PairAt wx B y ∧ PairAt wx C z ∧ PairAt wx w.heap.size x ∧ PairAt wx (w.heap.size + 1) y ∧ Below w.heap.size w wx)
  case first =>
    go_region
    all_goals (go_wp2_with fail; go_meet)
    all_goals refine ⟨_, _, _, rfl, rfl, rfl, ⟨?_, ?_⟩, ⟨?_, ?_⟩, ⟨?_, ?_⟩, ⟨?_, ?_⟩, ⟨?_, ?_⟩, ?_⟩
    all_goals first | (simp [go_sem]; done) | (repeat (first | exact Below.refl _ _ | refine Below.drew ?_ | (refine Below.alloc ?_ (by simp <;> omega) _)))
  case rest =>
    obtain ⟨A, B, C, rfl, rfl, rfl, hA, hB, hC, hX, hY, hbw⟩ := hcut
    have HKS : Hid (∀ wa wb : World, Below wa.heap.size wa wb → (wa.cell? ⟨A, 0, none⟩ = some (.int .i64 x.1) ∧ wa.cell? ⟨A, 1, none⟩ = some (.int .i64 x.2) ∧ wa.cell? ⟨B, 0, none⟩ = some (.int .i64 y.1) ∧ wa.cell? ⟨B, 1, none⟩ = some (.int .i64 y.2) ∧ Below wc.heap.size wc wa) →
      (wb.cell? ⟨A, 0, none⟩ = some (.int .i64 x.1) ∧ wb.cell? ⟨A, 1, none⟩ = some (.int .i64 x.2) ∧ wb.cell? ⟨B, 0, none⟩ = some (.int .i64 y.1) ∧ wb.cell? ⟨B, 1, none⟩ = some (.int .i64 y.2) ∧ Below wc.heap.size wc wb)) := Lib.hid fun wa wb h hs => by
      obtain ⟨s1, s2, s3, s4, s8⟩ := hs
      exact ⟨(h.cell (block_lt_of_cell s1)).trans s1, (h.cell (block_lt_of_cell s2)).trans s2, (h.cell (block_lt_of_cell s3)).trans s3, (h.cell (block_lt_of_cell s4)).trans s4, s8.trans (h.mono s8.size)⟩
    have c1 := hA.1; have c2 := hA.2; have c3 := hB.1; have c4 := hB.2
    have HA := Lib.hid hA; have HB := Lib.hid hB; have HC := Lib.hid hC; have HX := Lib.hid hX; have HY := Lib.hid hY
    clear hA hB hC hX hY
    go_wp2_with fail
    go_region_held3 (fun wa => wa.cell? ⟨A, 0, none⟩ = some (.int .i64 x.1) ∧ wa.cell? ⟨A, 1, none⟩ = some (.int .i64 x.2) ∧ wa.cell? ⟨B, 0, none⟩ = some (.int .i64 y.1) ∧ wa.cell? ⟨B, 1, none⟩ = some (.int .i64 y.2) ∧ Below wc.heap.size wc wa)
      (first | exact HKS.out _ _ (by assumption) (by assumption) | exact HKS.out _ _ ((Below.refl _ _).alloc (Nat.le_refl _) _) (by assumption) | exact ⟨c1, c2, c3, c4, (Below.refl _ _).drew⟩ | go_keep)
      (first | (go_at_call 20; refine (spn_in _ _ _).mono ?_; rintro e w' ⟨rfl, hba⟩) | (go_at_call 21; refine (spn_ahead _ _ _).mono ?_; rintro e w' ⟨rfl, hba⟩))
    obtain ⟨_, _, _, _, f5⟩ := ‹_ ∧ _ ∧ _ ∧ _ ∧ Below wc.heap.size wc _›
    have HR : Hid (∀ j, j < 4 → (w'.alloc (Obj.cells #[Value.bool (inB x y), Value.bool (inB y x), Value.bool (aheadB x y), Value.bool (aheadB y x)] 4)).cell? ⟨w'.heap.size, j, none⟩ = some (.bool ([inB x y, inB y x, aheadB x y, aheadB y x].getD j false))) := Lib.hid fun j hj => by
      rw [World.cell?_alloc_mark]
      match j, hj with
      | 0, _ => rfl
      | 1, _ => rfl
      | 2, _ => rfl
      | 3, _ => rfl
    generalize World.alloc w' _ = wd at *
    generalize w'.heap.size = g at *
    have HL := Lib.hid (held_few x y)
    have HLL : Hid ([inB x y, inB y x, aheadB x y, aheadB y x].length = 4) := Lib.hid rfl
    generalize [inB x y, inB y x, aheadB x y, aheadB y x] = l at HR HL HLL
    have hbd := hbw.trans (f5.mono hbw.size)
    replace HA := Lib.hid (HA.out.below f5)
    replace HB := Lib.hid (HB.out.below f5)
    replace HC := Lib.hid (HC.out.below f5)
    replace HX := Lib.hid (HX.out.below f5)
    replace HY := Lib.hid (HY.out.below f5)
    clear c1 c2 c3 c4 hbw f5
    go_wp2_with fail
    go_loopw [10, 30] (fun h i wr => ∃ k : Nat, k ≤ 4 ∧ i = .int .i64 k ∧ h = .int .i64 (heldT l k : Nat) ∧ heldT l k ≤ k ∧ wr = wd) (fun _ i _ => 4 - (intOf i).toNat)
    case atStart => exact ⟨0, by omega, rfl, rfl, Nat.le_refl _, rfl⟩
    case round =>
      obtain ⟨k, hk, rfl, rfl, hle, rfl⟩ := hrel
      by_cases hlt : k < 4
      · have r1 := HR.out k hlt
        generalize hq : l.getD k false = q at r1
        have HS := Lib.hid (heldT_succ l k (by rw [HLL.out]; exact hlt))
        rw [hq] at HS
        clear hq
        cases q
        · go_wp2_with fail
          go_roundw
          case rel => exact ⟨k + 1, by omega, by go_num, by rw [HS.out]; rfl, by rw [HS.out]; simp; omega, trivial⟩
          case measure => simp [intOf]; omega
        · go_wp2_with fail
          go_roundw
          case rel => exact ⟨k + 1, by omega, by go_num, by rw [HS.out]; simp, by rw [HS.out]; simp; omega, trivial⟩
          case measure => simp [intOf]; omega
      · obtain rfl : k = 4 := by omega
        have a1 := HA.out.1; have a2 := HA.out.2; have b1 := HB.out.1; have b2 := HB.out.2
        have hH := HL.out
        have HT : heldT l 4 = heldT l 4 := rfl
        generalize heldT l 4 = hh at *
        go_upto_region 9 with fail
        go_cut [53] from 38 to 53 (fun c wx => c = .bool false ∧ wx = wr)
        case first =>
          by_cases e1 : x.1 < x.2
          · by_cases e2 : y.1 < y.2
            · have e3 := hH e1 e2
              go_wp2_with fail
              go_meet
              exact ⟨congrArg Value.bool (decide_eq_false (by omega)), rfl⟩
            · go_wp2_with fail
              go_meet
              exact ⟨rfl, rfl⟩
          · go_wp2_with fail
            go_meet
            exact ⟨rfl, rfl⟩
        case rest =>
          obtain ⟨rfl, rfl⟩ := hcut
          clear hH HT HL HLL HR
          go_upto_region 11 with fail
          go_cut [67] from 54 to 67 (fun c wx => c = .bool false ∧ Below wc.heap.size wc wx)
          case first =>
            have d1 := HC.out.1; have d2 := HC.out.2
            obtain ⟨q1, hq1⟩ : ∃ q, inB x y = q := ⟨_, rfl⟩
            obtain ⟨q7, hq7⟩ : ∃ q, inB y z = q := ⟨_, rfl⟩
            obtain ⟨q8, hq8⟩ : ∃ q, inB x z = q := ⟨_, rfl⟩
            have C1 : Hid (∀ w, Calls Try.prog 20 #[.agg #[.int .i64 x.1, .int .i64 x.2], .agg #[.int .i64 y.1, .int .i64 y.2]] w fun e w' => e = .returned (.bool q1) ∧ Below w.heap.size w w') := fun w => (spn_in x y w).mono fun e w' ⟨he, hw⟩ => ⟨by rw [he, hq1], hw⟩
            have C7 : Hid (∀ w, Calls Try.prog 20 #[.agg #[.int .i64 y.1, .int .i64 y.2], .agg #[.int .i64 z.1, .int .i64 z.2]] w fun e w' => e = .returned (.bool q7) ∧ Below w.heap.size w w') := fun w => (spn_in y z w).mono fun e w' ⟨he, hw⟩ => ⟨by rw [he, hq7], hw⟩
            have C8 : Hid (∀ w, Calls Try.prog 20 #[.agg #[.int .i64 x.1, .int .i64 x.2], .agg #[.int .i64 z.1, .int .i64 z.2]] w fun e w' => e = .returned (.bool q8) ∧ Below w.heap.size w w') := fun w => (spn_in x z w).mono fun e w' ⟨he, hw⟩ => ⟨by rw [he, hq8], hw⟩
            have HT := Lib.hid (in_trans x y z)
            rw [hq1, hq7, hq8] at HT
            clear hq1 hq7 hq8
            cases q1
            · go_wp2_with fail
              refine (C1.out _).mono ?_
              rintro e w1 ⟨rfl, hb1⟩
              go_wp2_with fail
              go_meet
              exact ⟨rfl, hb1⟩
            · go_wp2_with fail
              refine (C1.out _).mono ?_
              rintro e w1 ⟨rfl, hb1⟩
              have a1' := (hb1.cell (by exact block_lt_of_cell a1)).trans a1
              have a2' := (hb1.cell (by exact block_lt_of_cell a2)).trans a2
              have b1' := (hb1.cell (by exact block_lt_of_cell b1)).trans b1
              have b2' := (hb1.cell (by exact block_lt_of_cell b2)).trans b2
              have d1' := (hb1.cell (by exact block_lt_of_cell d1)).trans d1
              have d2' := (hb1.cell (by exact block_lt_of_cell d2)).trans d2
              clear a1 a2 b1 b2 d1 d2
              cases q7
              · go_wp2_with fail
                refine (C7.out _).mono ?_
                rintro e w2 ⟨rfl, hb2⟩
                go_wp2_with fail
                go_meet
                exact ⟨rfl, hb1.trans (hb2.mono hb1.size)⟩
              · obtain rfl : q8 = true := HT.out (by first | rfl | trivial) (by first | rfl | trivial)
                go_wp2_with fail
                refine (C7.out _).mono ?_
                rintro e w2 ⟨rfl, hb2⟩
                have a1 := (hb2.cell (by exact block_lt_of_cell a1')).trans a1'
                have a2 := (hb2.cell (by exact block_lt_of_cell a2')).trans a2'
                have d1 := (hb2.cell (by exact block_lt_of_cell d1')).trans d1'
                have d2 := (hb2.cell (by exact block_lt_of_cell d2')).trans d2'
                have hb12 := hb1.trans (hb2.mono hb1.size)
                clear a1' a2' b1' b2' d1' d2'
                go_wp2_with fail
                refine (C8.out _).mono ?_
                rintro e w3 ⟨rfl, hb3⟩
                go_wp2_with fail
                go_meet
                exact ⟨rfl, hb12.trans (hb3.mono hb12.size)⟩
          case rest =>
            obtain ⟨rfl, hbx⟩ := hcut
            have hbe := hbd.trans (hbx.mono hbd.size)
            replace HA := Lib.hid (HA.out.below hbx)
            replace HB := Lib.hid (HB.out.below hbx)
            replace HC := Lib.hid (HC.out.below hbx)
            replace HX := Lib.hid (HX.out.below hbx)
            replace HY := Lib.hid (HY.out.below hbx)
            clear hbx hbd a1 a2 b1 b2
            obtain ⟨q1, hq1⟩ : ∃ q, inB x y = q := ⟨_, rfl⟩
            obtain ⟨q3, hq3⟩ : ∃ q, aheadB x y = q := ⟨_, rfl⟩
            obtain ⟨q5, hq5⟩ : ∃ q, aheadB y z = q := ⟨_, rfl⟩
            obtain ⟨q6, hq6⟩ : ∃ q, aheadB x z = q := ⟨_, rfl⟩
            have C1 : Hid (∀ w, Calls Try.prog 20 #[.agg #[.int .i64 x.1, .int .i64 x.2], .agg #[.int .i64 y.1, .int .i64 y.2]] w fun e w' => e = .returned (.bool q1) ∧ Below w.heap.size w w') := fun w => (spn_in x y w).mono fun e w' ⟨he, hw⟩ => ⟨by rw [he, hq1], hw⟩
            have R1 : Hid (∀ w, Calls Try.prog 22 #[.agg #[.int .i64 x.1, .int .i64 x.2], .agg #[.int .i64 y.1, .int .i64 y.2]] w fun e w' => e = .returned (.bool q1) ∧ Below w.heap.size w w') := fun w => (rspn_in x y w).mono fun e w' ⟨he, hw⟩ => ⟨by rw [he, hq1], hw⟩
            have C3 : Hid (∀ w, Calls Try.prog 21 #[.agg #[.int .i64 x.1, .int .i64 x.2], .agg #[.int .i64 y.1, .int .i64 y.2]] w fun e w' => e = .returned (.bool q3) ∧ Below w.heap.size w w') := fun w => (spn_ahead x y w).mono fun e w' ⟨he, hw⟩ => ⟨by rw [he, hq3], hw⟩
            have R3 : Hid (∀ w, Calls Try.prog 23 #[.agg #[.int .i64 x.1, .int .i64 x.2], .agg #[.int .i64 y.1, .int .i64 y.2]] w fun e w' => e = .returned (.bool q3) ∧ Below w.heap.size w w') := fun w => (rspn_ahead x y w).mono fun e w' ⟨he, hw⟩ => ⟨by rw [he, hq3], hw⟩
            have C5 : Hid (∀ w, Calls Try.prog 21 #[.agg #[.int .i64 y.1, .int .i64 y.2], .agg #[.int .i64 z.1, .int .i64 z.2]] w fun e w' => e = .returned (.bool q5) ∧ Below w.heap.size w w') := fun w => (spn_ahead y z w).mono fun e w' ⟨he, hw⟩ => ⟨by rw [he, hq5], hw⟩
            have C6 : Hid (∀ w, Calls Try.prog 21 #[.agg #[.int .i64 x.1, .int .i64 x.2], .agg #[.int .i64 z.1, .int .i64 z.2]] w fun e w' => e = .returned (.bool q6) ∧ Below w.heap.size w w') := fun w => (spn_ahead x z w).mono fun e w' ⟨he, hw⟩ => ⟨by rw [he, hq6], hw⟩
            have HT := Lib.hid (ahead_trans x y z)
            rw [hq3, hq5, hq6] at HT
            clear hq1 hq3 hq5 hq6
            have HKS2 : Hid (∀ wa wb : World, Below wa.heap.size wa wb → (wa.cell? ⟨A, 0, none⟩ = some (.int .i64 x.1) ∧ wa.cell? ⟨A, 1, none⟩ = some (.int .i64 x.2) ∧ wa.cell? ⟨B, 0, none⟩ = some (.int .i64 y.1) ∧ wa.cell? ⟨B, 1, none⟩ = some (.int .i64 y.2) ∧ wa.cell? ⟨C, 0, none⟩ = some (.int .i64 z.1) ∧ wa.cell? ⟨C, 1, none⟩ = some (.int .i64 z.2) ∧ wa.cell? ⟨w.heap.size, 0, none⟩ = some (.int .i64 x.1) ∧ wa.cell? ⟨w.heap.size, 1, none⟩ = some (.int .i64 x.2) ∧ wa.cell? ⟨(w.heap.size + 1), 0, none⟩ = some (.int .i64 y.1) ∧ wa.cell? ⟨(w.heap.size + 1), 1, none⟩ = some (.int .i64 y.2) ∧ Below wc.heap.size wc wa) → (wb.cell? ⟨A, 0, none⟩ = some (.int .i64 x.1) ∧ wb.cell? ⟨A, 1, none⟩ = some (.int .i64 x.2) ∧ wb.cell? ⟨B, 0, none⟩ = some (.int .i64 y.1) ∧ wb.cell? ⟨B, 1, none⟩ = some (.int .i64 y.2) ∧ wb.cell? ⟨C, 0, none⟩ = some (.int .i64 z.1) ∧ wb.cell? ⟨C, 1, none⟩ = some (.int .i64 z.2) ∧ wb.cell? ⟨w.heap.size, 0, none⟩ = some (.int .i64 x.1) ∧ wb.cell? ⟨w.heap.size, 1, none⟩ = some (.int .i64 x.2) ∧ wb.cell? ⟨(w.heap.size + 1), 0, none⟩ = some (.int .i64 y.1) ∧ wb.cell? ⟨(w.heap.size + 1), 1, none⟩ = some (.int .i64 y.2) ∧ Below wc.heap.size wc wb)) := Lib.hid fun wa wb h hs => by
              obtain ⟨s1, s2, s3, s4, s5, s6, s7, s8, s9, s10, s11⟩ := hs
              exact ⟨(h.cell (block_lt_of_cell s1)).trans s1, (h.cell (block_lt_of_cell s2)).trans s2, (h.cell (block_lt_of_cell s3)).trans s3, (h.cell (block_lt_of_cell s4)).trans s4, (h.cell (block_lt_of_cell s5)).trans s5, (h.cell (block_lt_of_cell s6)).trans s6, (h.cell (block_lt_of_cell s7)).trans s7, (h.cell (block_lt_of_cell s8)).trans s8, (h.cell (block_lt_of_cell s9)).trans s9, (h.cell (block_lt_of_cell s10)).trans s10, s11.trans (h.mono s11.size)⟩
            have H0 : Hid ((wc.drew.cell? ⟨A, 0, none⟩ = some (.int .i64 x.1) ∧ wc.drew.cell? ⟨A, 1, none⟩ = some (.int .i64 x.2) ∧ wc.drew.cell? ⟨B, 0, none⟩ = some (.int .i64 y.1) ∧ wc.drew.cell? ⟨B, 1, none⟩ = some (.int .i64 y.2) ∧ wc.drew.cell? ⟨C, 0, none⟩ = some (.int .i64 z.1) ∧ wc.drew.cell? ⟨C, 1, none⟩ = some (.int .i64 z.2) ∧ wc.drew.cell? ⟨w.heap.size, 0, none⟩ = some (.int .i64 x.1) ∧ wc.drew.cell? ⟨w.heap.size, 1, none⟩ = some (.int .i64 x.2) ∧ wc.drew.cell? ⟨(w.heap.size + 1), 0, none⟩ = some (.int .i64 y.1) ∧ wc.drew.cell? ⟨(w.heap.size + 1), 1, none⟩ = some (.int .i64 y.2) ∧ Below wc.heap.size wc wc.drew)) := Lib.hid ⟨HA.out.1, HA.out.2, HB.out.1, HB.out.2, HC.out.1, HC.out.2, HX.out.1, HX.out.2, HY.out.1, HY.out.2, (Below.refl _ _).drew⟩
            clear HA HB HC HX HY
            go_upto_region 13 with fail
            by_cases hbg : y.2 ≤ y.1
            · clear HT
              refine wp_region_held_drew (S := (fun wa => wa.cell? ⟨A, 0, none⟩ = some (.int .i64 x.1) ∧ wa.cell? ⟨A, 1, none⟩ = some (.int .i64 x.2) ∧ wa.cell? ⟨B, 0, none⟩ = some (.int .i64 y.1) ∧ wa.cell? ⟨B, 1, none⟩ = some (.int .i64 y.2) ∧ wa.cell? ⟨C, 0, none⟩ = some (.int .i64 z.1) ∧ wa.cell? ⟨C, 1, none⟩ = some (.int .i64 z.2) ∧ wa.cell? ⟨w.heap.size, 0, none⟩ = some (.int .i64 x.1) ∧ wa.cell? ⟨w.heap.size, 1, none⟩ = some (.int .i64 x.2) ∧ wa.cell? ⟨(w.heap.size + 1), 0, none⟩ = some (.int .i64 y.1) ∧ wa.cell? ⟨(w.heap.size + 1), 1, none⟩ = some (.int .i64 y.2) ∧ Below wc.heap.size wc wa)) (by kernel_rfl) H0.out (fun hHeld => ?_)
              refine take_call (i := 0) (by kernel_rfl) rfl (fun K hK => ?_)
              go_simp
              (go_at_call 10; refine (alive_any _).mono ?_; rintro e w' ⟨rfl, hba⟩)
              go_wp2_with fail
              refine hK.out _ _ ?_ (fun hHeld2 => ?_)
              · exact HKS2.out _ _ (by assumption) (by assumption)
              clear hK K hHeld
              have hHeld := hHeld2
              clear hHeld2
              try simp only [Act.put, List.setIfInBounds_toArray, List.set_cons_zero, List.set_cons_succ]
              refine take_on (i := 1) (v := ?v1s11) rfl (by kernel_rfl) (by kernel_rfl) (by kernel_rfl) (fun _ _ _ h => h) (by rfl) ?hy1s11 (by assumption) ?_
              case hy1s11 => intro w hSw; (try dsimp only at hSw); go_simp <;> with_reducible rfl
              try simp only [Act.put, List.setIfInBounds_toArray, List.set_cons_zero, List.set_cons_succ]
              refine take_on (i := 2) (v := ?v2s11) rfl (by kernel_rfl) (by kernel_rfl) (by kernel_rfl) (fun _ _ _ h => h) (by rfl) ?hy2s11 (by assumption) ?_
              case hy2s11 => intro w hSw; (try dsimp only at hSw); go_simp <;> with_reducible rfl
              try simp only [Act.put, List.setIfInBounds_toArray, List.set_cons_zero, List.set_cons_succ]
              refine take_on (i := 3) (v := ?v3s11) rfl (by kernel_rfl) (by kernel_rfl) (by kernel_rfl) (fun _ _ _ h => h) (by rfl) ?hy3s11 (by assumption) ?_
              case hy3s11 => intro w hSw; (try dsimp only at hSw); go_simp <;> with_reducible rfl
              try simp only [Act.put, List.setIfInBounds_toArray, List.set_cons_zero, List.set_cons_succ]
              refine take_on (i := 5) (v := ?v5s11) rfl (by kernel_rfl) (by kernel_rfl) (by kernel_rfl) (fun _ _ _ h => h) (by rfl) ?hy5s11 (by assumption) ?_
              case hy5s11 => intro w hSw; (try dsimp only at hSw); go_simp <;> with_reducible rfl
              try simp only [Act.put, List.setIfInBounds_toArray, List.set_cons_zero, List.set_cons_succ]
              refine take_on (i := 6) (v := ?v6s11) rfl (by kernel_rfl) (by kernel_rfl) (by kernel_rfl) (fun _ _ _ h => h) (by rfl) ?hy6s11 (by assumption) ?_
              case hy6s11 => intro w hSw; (try dsimp only at hSw); go_simp <;> with_reducible rfl
              try simp only [Act.put, List.setIfInBounds_toArray, List.set_cons_zero, List.set_cons_succ]
              refine take_call (i := 4) (by kernel_rfl) rfl (fun K hK => ?_)
              go_simp
              (go_at_call 20; refine (C1.out _).mono ?_; rintro e w' ⟨rfl, hba⟩)
              go_wp2_with fail
              refine hK.out _ _ ?_ (fun hHeld2 => ?_)
              · exact HKS2.out _ _ (by assumption) (by assumption)
              clear hK K hHeld
              have hHeld := hHeld2
              clear hHeld2
              try simp only [Act.put, List.setIfInBounds_toArray, List.set_cons_zero, List.set_cons_succ]
              refine take_call (i := 7) (by kernel_rfl) rfl (fun K hK => ?_)
              go_simp
              (go_at_call 22; refine (R1.out _).mono ?_; rintro e w' ⟨rfl, hba⟩)
              go_wp2_with fail
              refine hK.out _ _ ?_ (fun hHeld2 => ?_)
              · exact HKS2.out _ _ (by assumption) (by assumption)
              clear hK K hHeld
              have hHeld := hHeld2
              clear hHeld2
              try simp only [Act.put, List.setIfInBounds_toArray, List.set_cons_zero, List.set_cons_succ]
              refine take_on (i := 8) (v := ?v8s11) rfl (by kernel_rfl) (by kernel_rfl) (by kernel_rfl) (fun _ _ _ h => h) (by rfl) ?hy8s11 (by assumption) ?_
              case hy8s11 => intro w hSw; (try dsimp only at hSw); go_simp <;> with_reducible rfl
              try simp only [Act.put, List.setIfInBounds_toArray, List.set_cons_zero, List.set_cons_succ]
              refine take_on (i := 9) (v := ?v9s11) rfl (by kernel_rfl) (by kernel_rfl) (by kernel_rfl) (fun _ _ _ h => h) (by rfl) ?hy9s11 (by assumption) ?_
              case hy9s11 => intro w hSw; (try dsimp only at hSw); go_simp <;> with_reducible rfl
              try simp only [Act.put, List.setIfInBounds_toArray, List.set_cons_zero, List.set_cons_succ]
              refine take_on (i := 10) (v := ?v10s11) rfl (by kernel_rfl) (by kernel_rfl) (by kernel_rfl) (fun _ _ _ h => h) (by rfl) ?hy10s11 (by assumption) ?_
              case hy10s11 => intro w hSw; (try dsimp only at hSw); go_simp <;> with_reducible rfl
              try simp only [Act.put, List.setIfInBounds_toArray, List.set_cons_zero, List.set_cons_succ]
              refine take_on (i := 11) (v := ?v11s11) rfl (by kernel_rfl) (by kernel_rfl) (by kernel_rfl) (fun _ _ _ h => h) (by rfl) ?hy11s11 (by assumption) ?_
              case hy11s11 => intro w hSw; (try dsimp only at hSw); go_simp <;> with_reducible rfl
              try simp only [Act.put, List.setIfInBounds_toArray, List.set_cons_zero, List.set_cons_succ]
              refine take_on (i := 12) (v := ?v12s11) rfl (by kernel_rfl) (by kernel_rfl) (by kernel_rfl) (fun _ _ _ h => h) (by rfl) ?hy12s11 (by assumption) ?_
              case hy12s11 => intro w hSw; (try dsimp only at hSw); go_simp <;> with_reducible rfl
              try simp only [Act.put, List.setIfInBounds_toArray, List.set_cons_zero, List.set_cons_succ]
              refine take_on (i := 14) (v := ?v14s11) rfl (by kernel_rfl) (by kernel_rfl) (by kernel_rfl) (fun _ _ _ h => h) (by rfl) ?hy14s11 (by assumption) ?_
              case hy14s11 => intro w hSw; (try dsimp only at hSw); go_simp <;> with_reducible rfl
              try simp only [Act.put, List.setIfInBounds_toArray, List.set_cons_zero, List.set_cons_succ]
              refine take_on (i := 15) (v := ?v15s11) rfl (by kernel_rfl) (by kernel_rfl) (by kernel_rfl) (fun _ _ _ h => h) (by rfl) ?hy15s11 (by assumption) ?_
              case hy15s11 => intro w hSw; (try dsimp only at hSw); go_simp <;> with_reducible rfl
              try simp only [Act.put, List.setIfInBounds_toArray, List.set_cons_zero, List.set_cons_succ]
              refine take_call (i := 13) (by kernel_rfl) rfl (fun K hK => ?_)
              go_simp
              (go_at_call 21; refine (C3.out _).mono ?_; rintro e w' ⟨rfl, hba⟩)
              go_wp2_with fail
              refine hK.out _ _ ?_ (fun hHeld2 => ?_)
              · exact HKS2.out _ _ (by assumption) (by assumption)
              clear hK K hHeld
              have hHeld := hHeld2
              clear hHeld2
              try simp only [Act.put, List.setIfInBounds_toArray, List.set_cons_zero, List.set_cons_succ]
              refine take_call (i := 16) (by kernel_rfl) rfl (fun K hK => ?_)
              go_simp
              (go_at_call 23; refine (R3.out _).mono ?_; rintro e w' ⟨rfl, hba⟩)
              go_wp2_with fail
              refine hK.out _ _ ?_ (fun hHeld2 => ?_)
              · exact HKS2.out _ _ (by assumption) (by assumption)
              clear hK K hHeld
              have hHeld := hHeld2
              clear hHeld2
              try simp only [Act.put, List.setIfInBounds_toArray, List.set_cons_zero, List.set_cons_succ]
              refine take_on (i := 17) (v := ?v17s11) rfl (by kernel_rfl) (by kernel_rfl) (by kernel_rfl) (fun _ _ _ h => h) (by rfl) ?hy17s11 (by assumption) ?_
              case hy17s11 => intro w hSw; (try dsimp only at hSw); go_simp <;> with_reducible rfl
              try simp only [Act.put, List.setIfInBounds_toArray, List.set_cons_zero, List.set_cons_succ]
              refine take_on (i := 18) (v := ?v18s11) rfl (by kernel_rfl) (by kernel_rfl) (by kernel_rfl) (fun _ _ _ h => h) (by rfl) ?hy18s11 (by assumption) ?_
              case hy18s11 => intro w hSw; (try dsimp only at hSw); go_simp <;> with_reducible rfl
              try simp only [Act.put, List.setIfInBounds_toArray, List.set_cons_zero, List.set_cons_succ]
              refine take_on (i := 19) (v := ?v19s11) rfl (by kernel_rfl) (by kernel_rfl) (by kernel_rfl) (fun _ _ _ h => h) (by rfl) ?hy19s11 (by assumption) ?_
              case hy19s11 => intro w hSw; (try dsimp only at hSw); go_simp <;> with_reducible rfl
              try simp only [Act.put, List.setIfInBounds_toArray, List.set_cons_zero, List.set_cons_succ]
              refine take_on (i := 20) (v := ?v20s11) rfl (by kernel_rfl) (by kernel_rfl) (by kernel_rfl) (fun _ _ _ h => h) (by rfl) ?hy20s11 (by assumption) ?_
              case hy20s11 => intro w hSw; (try dsimp only at hSw); go_simp <;> with_reducible rfl
              try simp only [Act.put, List.setIfInBounds_toArray, List.set_cons_zero, List.set_cons_succ]
              refine take_on (i := 21) (v := ?v21s11) rfl (by kernel_rfl) (by kernel_rfl) (by kernel_rfl) (fun _ _ _ h => h) (by rfl) ?hy21s11 (by assumption) ?_
              case hy21s11 => intro w hSw; (try dsimp only at hSw); go_simp <;> with_reducible rfl
              try simp only [Act.put, List.setIfInBounds_toArray, List.set_cons_zero, List.set_cons_succ]
              refine take_on (i := 22) (v := ?v22s11) rfl (by kernel_rfl) (by kernel_rfl) (by kernel_rfl) (fun _ _ _ h => h) (by rfl) ?hy22s11 (by assumption) ?_
              case hy22s11 => intro w hSw; (try dsimp only at hSw); go_simp <;> with_reducible rfl
              try simp only [Act.put, List.setIfInBounds_toArray, List.set_cons_zero, List.set_cons_succ]
              refine take_on (i := 23) (v := ?v23s11) rfl (by kernel_rfl) (by kernel_rfl) (by kernel_rfl) (fun _ _ _ h => h) (by rfl) ?hy23s11 (by assumption) ?_
              case hy23s11 => intro w hSw; (try dsimp only at hSw); go_simp <;> with_reducible rfl
              try simp only [Act.put, List.setIfInBounds_toArray, List.set_cons_zero, List.set_cons_succ]
              refine take_on (i := 24) (v := .bool true) rfl (by kernel_rfl) (by kernel_rfl) (by kernel_rfl) (fun _ _ _ h => h) (by rfl) ?hy2411 (by assumption) ?_
              case hy2411 => intro w hSw; (try dsimp only at hSw); go_simp <;> first | with_reducible rfl | assumption | omega
              try simp only [Act.put, List.setIfInBounds_toArray, List.set_cons_zero, List.set_cons_succ]
              refine take_on (i := 25) (v := ?v25s11) rfl (by kernel_rfl) (by kernel_rfl) (by kernel_rfl) (fun _ _ _ h => h) (by rfl) ?hy25s11 (by assumption) ?_
              case hy25s11 => intro w hSw; (try dsimp only at hSw); go_simp <;> with_reducible rfl
              try simp only [Act.put, List.setIfInBounds_toArray, List.set_cons_zero, List.set_cons_succ]
              refine take_off (i := 26) rfl (by kernel_rfl) (by kernel_rfl) (by kernel_rfl) (fun _ _ _ h => h) (by rfl) (by assumption) ?_
              try simp only [Act.put, List.setIfInBounds_toArray, List.set_cons_zero, List.set_cons_succ]
              refine take_off (i := 27) rfl (by kernel_rfl) (by kernel_rfl) (by kernel_rfl) (fun _ _ _ h => h) (by rfl) (by assumption) ?_
              try simp only [Act.put, List.setIfInBounds_toArray, List.set_cons_zero, List.set_cons_succ]
              refine take_off (i := 28) rfl (by kernel_rfl) (by kernel_rfl) (by kernel_rfl) (fun _ _ _ h => h) (by rfl) (by assumption) ?_
              try simp only [Act.put, List.setIfInBounds_toArray, List.set_cons_zero, List.set_cons_succ]
              refine take_off (i := 29) rfl (by kernel_rfl) (by kernel_rfl) (by kernel_rfl) (fun _ _ _ h => h) (by rfl) (by assumption) ?_
              try simp only [Act.put, List.setIfInBounds_toArray, List.set_cons_zero, List.set_cons_succ]
              refine take_on (i := 30) (v := ?v30s11) rfl (by kernel_rfl) (by kernel_rfl) (by kernel_rfl) (fun _ _ _ h => h) (by rfl) ?hy30s11 (by assumption) ?_
              case hy30s11 => intro w hSw; (try dsimp only at hSw); go_simp <;> with_reducible rfl
              try simp only [Act.put, List.setIfInBounds_toArray, List.set_cons_zero, List.set_cons_succ]
              refine take_on (i := 31) (v := ?v31s11) rfl (by kernel_rfl) (by kernel_rfl) (by kernel_rfl) (fun _ _ _ h => h) (by rfl) ?hy31s11 (by assumption) ?_
              case hy31s11 => intro w hSw; (try dsimp only at hSw); go_simp <;> with_reducible rfl
              try simp only [Act.put, List.setIfInBounds_toArray, List.set_cons_zero, List.set_cons_succ]
              refine take_off (i := 32) rfl (by kernel_rfl) (by kernel_rfl) (by kernel_rfl) (fun _ _ _ h => h) (by rfl) (by assumption) ?_
              try simp only [Act.put, List.setIfInBounds_toArray, List.set_cons_zero, List.set_cons_succ]
              refine take_off (i := 33) rfl (by kernel_rfl) (by kernel_rfl) (by kernel_rfl) (fun _ _ _ h => h) (by rfl) (by assumption) ?_
              try simp only [Act.put, List.setIfInBounds_toArray, List.set_cons_zero, List.set_cons_succ]
              refine take_off (i := 34) rfl (by kernel_rfl) (by kernel_rfl) (by kernel_rfl) (fun _ _ _ h => h) (by rfl) (by assumption) ?_
              try simp only [Act.put, List.setIfInBounds_toArray, List.set_cons_zero, List.set_cons_succ]
              refine take_off (i := 35) rfl (by kernel_rfl) (by kernel_rfl) (by kernel_rfl) (fun _ _ _ h => h) (by rfl) (by assumption) ?_
              try simp only [Act.put, List.setIfInBounds_toArray, List.set_cons_zero, List.set_cons_succ]
              refine take_on (i := 36) (v := ?v36s11) rfl (by kernel_rfl) (by kernel_rfl) (by kernel_rfl) (fun _ _ _ h => h) (by rfl) ?hy36s11 (by assumption) ?_
              case hy36s11 => intro w hSw; (try dsimp only at hSw); go_simp <;> with_reducible rfl
              try simp only [Act.put, List.setIfInBounds_toArray, List.set_cons_zero, List.set_cons_succ]
              refine take_on (i := 37) (v := ?v37s11) rfl (by kernel_rfl) (by kernel_rfl) (by kernel_rfl) (fun _ _ _ h => h) (by rfl) ?hy37s11 (by assumption) ?_
              case hy37s11 => intro w hSw; (try dsimp only at hSw); go_simp <;> with_reducible rfl
              try simp only [Act.put, List.setIfInBounds_toArray, List.set_cons_zero, List.set_cons_succ]
              refine take_off (i := 38) rfl (by kernel_rfl) (by kernel_rfl) (by kernel_rfl) (fun _ _ _ h => h) (by rfl) (by assumption) ?_
              try simp only [Act.put, List.setIfInBounds_toArray, List.set_cons_zero, List.set_cons_succ]
              refine take_off (i := 39) rfl (by kernel_rfl) (by kernel_rfl) (by kernel_rfl) (fun _ _ _ h => h) (by rfl) (by assumption) ?_
              try simp only [Act.put, List.setIfInBounds_toArray, List.set_cons_zero, List.set_cons_succ]
              refine take_off (i := 40) rfl (by kernel_rfl) (by kernel_rfl) (by kernel_rfl) (fun _ _ _ h => h) (by rfl) (by assumption) ?_
              try simp only [Act.put, List.setIfInBounds_toArray, List.set_cons_zero, List.set_cons_succ]
              refine take_on (i := 41) (v := ?v41s11) rfl (by kernel_rfl) (by kernel_rfl) (by kernel_rfl) (fun _ _ _ h => h) (by rfl) ?hy41s11 (by assumption) ?_
              case hy41s11 => intro w hSw; (try dsimp only at hSw); go_simp <;> with_reducible rfl
              try simp only [Act.put, List.setIfInBounds_toArray, List.set_cons_zero, List.set_cons_succ]
              refine take_on (i := 42) (v := ?v42s11) rfl (by kernel_rfl) (by kernel_rfl) (by kernel_rfl) (fun _ _ _ h => h) (by rfl) ?hy42s11 (by assumption) ?_
              case hy42s11 => intro w hSw; (try dsimp only at hSw); go_simp <;> with_reducible rfl
              try simp only [Act.put, List.setIfInBounds_toArray, List.set_cons_zero, List.set_cons_succ]
              refine take_on (i := 43) (v := ?v43s11) rfl (by kernel_rfl) (by kernel_rfl) (by kernel_rfl) (fun _ _ _ h => h) (by rfl) ?hy43s11 (by assumption) ?_
              case hy43s11 => intro w hSw; (try dsimp only at hSw); go_simp <;> with_reducible rfl
              try simp only [Act.put, List.setIfInBounds_toArray, List.set_cons_zero, List.set_cons_succ]
              refine wpAnyH_done (by kernel_rfl) ?_ _
              obtain ⟨_, _, _, _, _, _, _, _, _, _, hz⟩ := ‹_ ∧ _ ∧ _ ∧ _ ∧ _ ∧ _ ∧ _ ∧ _ ∧ _ ∧ _ ∧ Below wc.heap.size wc _›
              go_wp2_with fail
              go_ret
              exact ⟨rfl, hbe.trans (hz.mono hbe.size)⟩
            have HT2 := Lib.hid (HT.out hbg)
            clear HT
            cases q3
            · clear HT2
              refine wp_region_held_drew (S := (fun wa => wa.cell? ⟨A, 0, none⟩ = some (.int .i64 x.1) ∧ wa.cell? ⟨A, 1, none⟩ = some (.int .i64 x.2) ∧ wa.cell? ⟨B, 0, none⟩ = some (.int .i64 y.1) ∧ wa.cell? ⟨B, 1, none⟩ = some (.int .i64 y.2) ∧ wa.cell? ⟨C, 0, none⟩ = some (.int .i64 z.1) ∧ wa.cell? ⟨C, 1, none⟩ = some (.int .i64 z.2) ∧ wa.cell? ⟨w.heap.size, 0, none⟩ = some (.int .i64 x.1) ∧ wa.cell? ⟨w.heap.size, 1, none⟩ = some (.int .i64 x.2) ∧ wa.cell? ⟨(w.heap.size + 1), 0, none⟩ = some (.int .i64 y.1) ∧ wa.cell? ⟨(w.heap.size + 1), 1, none⟩ = some (.int .i64 y.2) ∧ Below wc.heap.size wc wa)) (by kernel_rfl) H0.out (fun hHeld => ?_)
              refine take_call (i := 0) (by kernel_rfl) rfl (fun K hK => ?_)
              go_simp
              (go_at_call 10; refine (alive_any _).mono ?_; rintro e w' ⟨rfl, hba⟩)
              go_wp2_with fail
              refine hK.out _ _ ?_ (fun hHeld2 => ?_)
              · exact HKS2.out _ _ (by assumption) (by assumption)
              clear hK K hHeld
              have hHeld := hHeld2
              clear hHeld2
              try simp only [Act.put, List.setIfInBounds_toArray, List.set_cons_zero, List.set_cons_succ]
              refine take_on (i := 1) (v := ?v1s7) rfl (by kernel_rfl) (by kernel_rfl) (by kernel_rfl) (fun _ _ _ h => h) (by rfl) ?hy1s7 (by assumption) ?_
              case hy1s7 => intro w hSw; (try dsimp only at hSw); go_simp <;> with_reducible rfl
              try simp only [Act.put, List.setIfInBounds_toArray, List.set_cons_zero, List.set_cons_succ]
              refine take_on (i := 2) (v := ?v2s7) rfl (by kernel_rfl) (by kernel_rfl) (by kernel_rfl) (fun _ _ _ h => h) (by rfl) ?hy2s7 (by assumption) ?_
              case hy2s7 => intro w hSw; (try dsimp only at hSw); go_simp <;> with_reducible rfl
              try simp only [Act.put, List.setIfInBounds_toArray, List.set_cons_zero, List.set_cons_succ]
              refine take_on (i := 3) (v := ?v3s7) rfl (by kernel_rfl) (by kernel_rfl) (by kernel_rfl) (fun _ _ _ h => h) (by rfl) ?hy3s7 (by assumption) ?_
              case hy3s7 => intro w hSw; (try dsimp only at hSw); go_simp <;> with_reducible rfl
              try simp only [Act.put, List.setIfInBounds_toArray, List.set_cons_zero, List.set_cons_succ]
              refine take_on (i := 5) (v := ?v5s7) rfl (by kernel_rfl) (by kernel_rfl) (by kernel_rfl) (fun _ _ _ h => h) (by rfl) ?hy5s7 (by assumption) ?_
              case hy5s7 => intro w hSw; (try dsimp only at hSw); go_simp <;> with_reducible rfl
              try simp only [Act.put, List.setIfInBounds_toArray, List.set_cons_zero, List.set_cons_succ]
              refine take_on (i := 6) (v := ?v6s7) rfl (by kernel_rfl) (by kernel_rfl) (by kernel_rfl) (fun _ _ _ h => h) (by rfl) ?hy6s7 (by assumption) ?_
              case hy6s7 => intro w hSw; (try dsimp only at hSw); go_simp <;> with_reducible rfl
              try simp only [Act.put, List.setIfInBounds_toArray, List.set_cons_zero, List.set_cons_succ]
              refine take_call (i := 4) (by kernel_rfl) rfl (fun K hK => ?_)
              go_simp
              (go_at_call 20; refine (C1.out _).mono ?_; rintro e w' ⟨rfl, hba⟩)
              go_wp2_with fail
              refine hK.out _ _ ?_ (fun hHeld2 => ?_)
              · exact HKS2.out _ _ (by assumption) (by assumption)
              clear hK K hHeld
              have hHeld := hHeld2
              clear hHeld2
              try simp only [Act.put, List.setIfInBounds_toArray, List.set_cons_zero, List.set_cons_succ]
              refine take_call (i := 7) (by kernel_rfl) rfl (fun K hK => ?_)
              go_simp
              (go_at_call 22; refine (R1.out _).mono ?_; rintro e w' ⟨rfl, hba⟩)
              go_wp2_with fail
              refine hK.out _ _ ?_ (fun hHeld2 => ?_)
              · exact HKS2.out _ _ (by assumption) (by assumption)
              clear hK K hHeld
              have hHeld := hHeld2
              clear hHeld2
              try simp only [Act.put, List.setIfInBounds_toArray, List.set_cons_zero, List.set_cons_succ]
              refine take_on (i := 8) (v := ?v8s7) rfl (by kernel_rfl) (by kernel_rfl) (by kernel_rfl) (fun _ _ _ h => h) (by rfl) ?hy8s7 (by assumption) ?_
              case hy8s7 => intro w hSw; (try dsimp only at hSw); go_simp <;> with_reducible rfl
              try simp only [Act.put, List.setIfInBounds_toArray, List.set_cons_zero, List.set_cons_succ]
              refine take_on (i := 9) (v := ?v9s7) rfl (by kernel_rfl) (by kernel_rfl) (by kernel_rfl) (fun _ _ _ h => h) (by rfl) ?hy9s7 (by assumption) ?_
              case hy9s7 => intro w hSw; (try dsimp only at hSw); go_simp <;> with_reducible rfl
              try simp only [Act.put, List.setIfInBounds_toArray, List.set_cons_zero, List.set_cons_succ]
              refine take_on (i := 10) (v := ?v10s7) rfl (by kernel_rfl) (by kernel_rfl) (by kernel_rfl) (fun _ _ _ h => h) (by rfl) ?hy10s7 (by assumption) ?_
              case hy10s7 => intro w hSw; (try dsimp only at hSw); go_simp <;> with_reducible rfl
              try simp only [Act.put, List.setIfInBounds_toArray, List.set_cons_zero, List.set_cons_succ]
              refine take_on (i := 11) (v := ?v11s7) rfl (by kernel_rfl) (by kernel_rfl) (by kernel_rfl) (fun _ _ _ h => h) (by rfl) ?hy11s7 (by assumption) ?_
              case hy11s7 => intro w hSw; (try dsimp only at hSw); go_simp <;> with_reducible rfl
              try simp only [Act.put, List.setIfInBounds_toArray, List.set_cons_zero, List.set_cons_succ]
              refine take_on (i := 12) (v := ?v12s7) rfl (by kernel_rfl) (by kernel_rfl) (by kernel_rfl) (fun _ _ _ h => h) (by rfl) ?hy12s7 (by assumption) ?_
              case hy12s7 => intro w hSw; (try dsimp only at hSw); go_simp <;> with_reducible rfl
              try simp only [Act.put, List.setIfInBounds_toArray, List.set_cons_zero, List.set_cons_succ]
              refine take_on (i := 14) (v := ?v14s7) rfl (by kernel_rfl) (by kernel_rfl) (by kernel_rfl) (fun _ _ _ h => h) (by rfl) ?hy14s7 (by assumption) ?_
              case hy14s7 => intro w hSw; (try dsimp only at hSw); go_simp <;> with_reducible rfl
              try simp only [Act.put, List.setIfInBounds_toArray, List.set_cons_zero, List.set_cons_succ]
              refine take_on (i := 15) (v := ?v15s7) rfl (by kernel_rfl) (by kernel_rfl) (by kernel_rfl) (fun _ _ _ h => h) (by rfl) ?hy15s7 (by assumption) ?_
              case hy15s7 => intro w hSw; (try dsimp only at hSw); go_simp <;> with_reducible rfl
              try simp only [Act.put, List.setIfInBounds_toArray, List.set_cons_zero, List.set_cons_succ]
              refine take_call (i := 13) (by kernel_rfl) rfl (fun K hK => ?_)
              go_simp
              (go_at_call 21; refine (C3.out _).mono ?_; rintro e w' ⟨rfl, hba⟩)
              go_wp2_with fail
              refine hK.out _ _ ?_ (fun hHeld2 => ?_)
              · exact HKS2.out _ _ (by assumption) (by assumption)
              clear hK K hHeld
              have hHeld := hHeld2
              clear hHeld2
              try simp only [Act.put, List.setIfInBounds_toArray, List.set_cons_zero, List.set_cons_succ]
              refine take_call (i := 16) (by kernel_rfl) rfl (fun K hK => ?_)
              go_simp
              (go_at_call 23; refine (R3.out _).mono ?_; rintro e w' ⟨rfl, hba⟩)
              go_wp2_with fail
              refine hK.out _ _ ?_ (fun hHeld2 => ?_)
              · exact HKS2.out _ _ (by assumption) (by assumption)
              clear hK K hHeld
              have hHeld := hHeld2
              clear hHeld2
              try simp only [Act.put, List.setIfInBounds_toArray, List.set_cons_zero, List.set_cons_succ]
              refine take_on (i := 17) (v := ?v17s7) rfl (by kernel_rfl) (by kernel_rfl) (by kernel_rfl) (fun _ _ _ h => h) (by rfl) ?hy17s7 (by assumption) ?_
              case hy17s7 => intro w hSw; (try dsimp only at hSw); go_simp <;> with_reducible rfl
              try simp only [Act.put, List.setIfInBounds_toArray, List.set_cons_zero, List.set_cons_succ]
              refine take_on (i := 18) (v := ?v18s7) rfl (by kernel_rfl) (by kernel_rfl) (by kernel_rfl) (fun _ _ _ h => h) (by rfl) ?hy18s7 (by assumption) ?_
              case hy18s7 => intro w hSw; (try dsimp only at hSw); go_simp <;> with_reducible rfl
              try simp only [Act.put, List.setIfInBounds_toArray, List.set_cons_zero, List.set_cons_succ]
              refine take_on (i := 19) (v := ?v19s7) rfl (by kernel_rfl) (by kernel_rfl) (by kernel_rfl) (fun _ _ _ h => h) (by rfl) ?hy19s7 (by assumption) ?_
              case hy19s7 => intro w hSw; (try dsimp only at hSw); go_simp <;> with_reducible rfl
              try simp only [Act.put, List.setIfInBounds_toArray, List.set_cons_zero, List.set_cons_succ]
              refine take_on (i := 20) (v := ?v20s7) rfl (by kernel_rfl) (by kernel_rfl) (by kernel_rfl) (fun _ _ _ h => h) (by rfl) ?hy20s7 (by assumption) ?_
              case hy20s7 => intro w hSw; (try dsimp only at hSw); go_simp <;> with_reducible rfl
              try simp only [Act.put, List.setIfInBounds_toArray, List.set_cons_zero, List.set_cons_succ]
              refine take_on (i := 21) (v := ?v21s7) rfl (by kernel_rfl) (by kernel_rfl) (by kernel_rfl) (fun _ _ _ h => h) (by rfl) ?hy21s7 (by assumption) ?_
              case hy21s7 => intro w hSw; (try dsimp only at hSw); go_simp <;> with_reducible rfl
              try simp only [Act.put, List.setIfInBounds_toArray, List.set_cons_zero, List.set_cons_succ]
              refine take_on (i := 22) (v := ?v22s7) rfl (by kernel_rfl) (by kernel_rfl) (by kernel_rfl) (fun _ _ _ h => h) (by rfl) ?hy22s7 (by assumption) ?_
              case hy22s7 => intro w hSw; (try dsimp only at hSw); go_simp <;> with_reducible rfl
              try simp only [Act.put, List.setIfInBounds_toArray, List.set_cons_zero, List.set_cons_succ]
              refine take_on (i := 23) (v := ?v23s7) rfl (by kernel_rfl) (by kernel_rfl) (by kernel_rfl) (fun _ _ _ h => h) (by rfl) ?hy23s7 (by assumption) ?_
              case hy23s7 => intro w hSw; (try dsimp only at hSw); go_simp <;> with_reducible rfl
              try simp only [Act.put, List.setIfInBounds_toArray, List.set_cons_zero, List.set_cons_succ]
              refine take_on (i := 24) (v := .bool false) rfl (by kernel_rfl) (by kernel_rfl) (by kernel_rfl) (fun _ _ _ h => h) (by rfl) ?hy247 (by assumption) ?_
              case hy247 => intro w hSw; (try dsimp only at hSw); go_simp <;> first | with_reducible rfl | assumption | omega
              try simp only [Act.put, List.setIfInBounds_toArray, List.set_cons_zero, List.set_cons_succ]
              refine take_on (i := 25) (v := ?v25s7) rfl (by kernel_rfl) (by kernel_rfl) (by kernel_rfl) (fun _ _ _ h => h) (by rfl) ?hy25s7 (by assumption) ?_
              case hy25s7 => intro w hSw; (try dsimp only at hSw); go_simp <;> with_reducible rfl
              try simp only [Act.put, List.setIfInBounds_toArray, List.set_cons_zero, List.set_cons_succ]
              refine take_on (i := 26) (v := ?v26s7) rfl (by kernel_rfl) (by kernel_rfl) (by kernel_rfl) (fun _ _ _ h => h) (by rfl) ?hy26s7 (by assumption) ?_
              case hy26s7 => intro w hSw; (try dsimp only at hSw); go_simp <;> with_reducible rfl
              try simp only [Act.put, List.setIfInBounds_toArray, List.set_cons_zero, List.set_cons_succ]
              refine take_on (i := 27) (v := ?v27s7) rfl (by kernel_rfl) (by kernel_rfl) (by kernel_rfl) (fun _ _ _ h => h) (by rfl) ?hy27s7 (by assumption) ?_
              case hy27s7 => intro w hSw; (try dsimp only at hSw); go_simp <;> with_reducible rfl
              try simp only [Act.put, List.setIfInBounds_toArray, List.set_cons_zero, List.set_cons_succ]
              refine take_call (i := 28) (by kernel_rfl) rfl (fun K hK => ?_)
              go_simp
              (go_at_call 21; refine (C3.out _).mono ?_; rintro e w' ⟨rfl, hba⟩)
              go_wp2_with fail
              refine hK.out _ _ ?_ (fun hHeld2 => ?_)
              · exact HKS2.out _ _ (by assumption) (by assumption)
              clear hK K hHeld
              have hHeld := hHeld2
              clear hHeld2
              try simp only [Act.put, List.setIfInBounds_toArray, List.set_cons_zero, List.set_cons_succ]
              refine take_on (i := 29) (v := ?v29s7) rfl (by kernel_rfl) (by kernel_rfl) (by kernel_rfl) (fun _ _ _ h => h) (by rfl) ?hy29s7 (by assumption) ?_
              case hy29s7 => intro w hSw; (try dsimp only at hSw); go_simp <;> with_reducible rfl
              try simp only [Act.put, List.setIfInBounds_toArray, List.set_cons_zero, List.set_cons_succ]
              refine take_on (i := 30) (v := ?v30s7) rfl (by kernel_rfl) (by kernel_rfl) (by kernel_rfl) (fun _ _ _ h => h) (by rfl) ?hy30s7 (by assumption) ?_
              case hy30s7 => intro w hSw; (try dsimp only at hSw); go_simp <;> with_reducible rfl
              try simp only [Act.put, List.setIfInBounds_toArray, List.set_cons_zero, List.set_cons_succ]
              refine take_on (i := 31) (v := ?v31s7) rfl (by kernel_rfl) (by kernel_rfl) (by kernel_rfl) (fun _ _ _ h => h) (by rfl) ?hy31s7 (by assumption) ?_
              case hy31s7 => intro w hSw; (try dsimp only at hSw); go_simp <;> with_reducible rfl
              try simp only [Act.put, List.setIfInBounds_toArray, List.set_cons_zero, List.set_cons_succ]
              refine take_off (i := 32) rfl (by kernel_rfl) (by kernel_rfl) (by kernel_rfl) (fun _ _ _ h => h) (by rfl) (by assumption) ?_
              try simp only [Act.put, List.setIfInBounds_toArray, List.set_cons_zero, List.set_cons_succ]
              refine take_off (i := 33) rfl (by kernel_rfl) (by kernel_rfl) (by kernel_rfl) (fun _ _ _ h => h) (by rfl) (by assumption) ?_
              try simp only [Act.put, List.setIfInBounds_toArray, List.set_cons_zero, List.set_cons_succ]
              refine take_off (i := 34) rfl (by kernel_rfl) (by kernel_rfl) (by kernel_rfl) (fun _ _ _ h => h) (by rfl) (by assumption) ?_
              try simp only [Act.put, List.setIfInBounds_toArray, List.set_cons_zero, List.set_cons_succ]
              refine take_off (i := 35) rfl (by kernel_rfl) (by kernel_rfl) (by kernel_rfl) (fun _ _ _ h => h) (by rfl) (by assumption) ?_
              try simp only [Act.put, List.setIfInBounds_toArray, List.set_cons_zero, List.set_cons_succ]
              refine take_on (i := 36) (v := ?v36s7) rfl (by kernel_rfl) (by kernel_rfl) (by kernel_rfl) (fun _ _ _ h => h) (by rfl) ?hy36s7 (by assumption) ?_
              case hy36s7 => intro w hSw; (try dsimp only at hSw); go_simp <;> with_reducible rfl
              try simp only [Act.put, List.setIfInBounds_toArray, List.set_cons_zero, List.set_cons_succ]
              refine take_on (i := 37) (v := ?v37s7) rfl (by kernel_rfl) (by kernel_rfl) (by kernel_rfl) (fun _ _ _ h => h) (by rfl) ?hy37s7 (by assumption) ?_
              case hy37s7 => intro w hSw; (try dsimp only at hSw); go_simp <;> with_reducible rfl
              try simp only [Act.put, List.setIfInBounds_toArray, List.set_cons_zero, List.set_cons_succ]
              refine take_off (i := 38) rfl (by kernel_rfl) (by kernel_rfl) (by kernel_rfl) (fun _ _ _ h => h) (by rfl) (by assumption) ?_
              try simp only [Act.put, List.setIfInBounds_toArray, List.set_cons_zero, List.set_cons_succ]
              refine take_off (i := 39) rfl (by kernel_rfl) (by kernel_rfl) (by kernel_rfl) (fun _ _ _ h => h) (by rfl) (by assumption) ?_
              try simp only [Act.put, List.setIfInBounds_toArray, List.set_cons_zero, List.set_cons_succ]
              refine take_off (i := 40) rfl (by kernel_rfl) (by kernel_rfl) (by kernel_rfl) (fun _ _ _ h => h) (by rfl) (by assumption) ?_
              try simp only [Act.put, List.setIfInBounds_toArray, List.set_cons_zero, List.set_cons_succ]
              refine take_on (i := 41) (v := ?v41s7) rfl (by kernel_rfl) (by kernel_rfl) (by kernel_rfl) (fun _ _ _ h => h) (by rfl) ?hy41s7 (by assumption) ?_
              case hy41s7 => intro w hSw; (try dsimp only at hSw); go_simp <;> with_reducible rfl
              try simp only [Act.put, List.setIfInBounds_toArray, List.set_cons_zero, List.set_cons_succ]
              refine take_on (i := 42) (v := ?v42s7) rfl (by kernel_rfl) (by kernel_rfl) (by kernel_rfl) (fun _ _ _ h => h) (by rfl) ?hy42s7 (by assumption) ?_
              case hy42s7 => intro w hSw; (try dsimp only at hSw); go_simp <;> with_reducible rfl
              try simp only [Act.put, List.setIfInBounds_toArray, List.set_cons_zero, List.set_cons_succ]
              refine take_on (i := 43) (v := ?v43s7) rfl (by kernel_rfl) (by kernel_rfl) (by kernel_rfl) (fun _ _ _ h => h) (by rfl) ?hy43s7 (by assumption) ?_
              case hy43s7 => intro w hSw; (try dsimp only at hSw); go_simp <;> with_reducible rfl
              try simp only [Act.put, List.setIfInBounds_toArray, List.set_cons_zero, List.set_cons_succ]
              refine wpAnyH_done (by kernel_rfl) ?_ _
              obtain ⟨_, _, _, _, _, _, _, _, _, _, hz⟩ := ‹_ ∧ _ ∧ _ ∧ _ ∧ _ ∧ _ ∧ _ ∧ _ ∧ _ ∧ _ ∧ Below wc.heap.size wc _›
              go_wp2_with fail
              go_ret
              exact ⟨rfl, hbe.trans (hz.mono hbe.size)⟩
            cases q5
            · clear HT2
              refine wp_region_held_drew (S := (fun wa => wa.cell? ⟨A, 0, none⟩ = some (.int .i64 x.1) ∧ wa.cell? ⟨A, 1, none⟩ = some (.int .i64 x.2) ∧ wa.cell? ⟨B, 0, none⟩ = some (.int .i64 y.1) ∧ wa.cell? ⟨B, 1, none⟩ = some (.int .i64 y.2) ∧ wa.cell? ⟨C, 0, none⟩ = some (.int .i64 z.1) ∧ wa.cell? ⟨C, 1, none⟩ = some (.int .i64 z.2) ∧ wa.cell? ⟨w.heap.size, 0, none⟩ = some (.int .i64 x.1) ∧ wa.cell? ⟨w.heap.size, 1, none⟩ = some (.int .i64 x.2) ∧ wa.cell? ⟨(w.heap.size + 1), 0, none⟩ = some (.int .i64 y.1) ∧ wa.cell? ⟨(w.heap.size + 1), 1, none⟩ = some (.int .i64 y.2) ∧ Below wc.heap.size wc wa)) (by kernel_rfl) H0.out (fun hHeld => ?_)
              refine take_call (i := 0) (by kernel_rfl) rfl (fun K hK => ?_)
              go_simp
              (go_at_call 10; refine (alive_any _).mono ?_; rintro e w' ⟨rfl, hba⟩)
              go_wp2_with fail
              refine hK.out _ _ ?_ (fun hHeld2 => ?_)
              · exact HKS2.out _ _ (by assumption) (by assumption)
              clear hK K hHeld
              have hHeld := hHeld2
              clear hHeld2
              try simp only [Act.put, List.setIfInBounds_toArray, List.set_cons_zero, List.set_cons_succ]
              refine take_on (i := 1) (v := ?v1s3) rfl (by kernel_rfl) (by kernel_rfl) (by kernel_rfl) (fun _ _ _ h => h) (by rfl) ?hy1s3 (by assumption) ?_
              case hy1s3 => intro w hSw; (try dsimp only at hSw); go_simp <;> with_reducible rfl
              try simp only [Act.put, List.setIfInBounds_toArray, List.set_cons_zero, List.set_cons_succ]
              refine take_on (i := 2) (v := ?v2s3) rfl (by kernel_rfl) (by kernel_rfl) (by kernel_rfl) (fun _ _ _ h => h) (by rfl) ?hy2s3 (by assumption) ?_
              case hy2s3 => intro w hSw; (try dsimp only at hSw); go_simp <;> with_reducible rfl
              try simp only [Act.put, List.setIfInBounds_toArray, List.set_cons_zero, List.set_cons_succ]
              refine take_on (i := 3) (v := ?v3s3) rfl (by kernel_rfl) (by kernel_rfl) (by kernel_rfl) (fun _ _ _ h => h) (by rfl) ?hy3s3 (by assumption) ?_
              case hy3s3 => intro w hSw; (try dsimp only at hSw); go_simp <;> with_reducible rfl
              try simp only [Act.put, List.setIfInBounds_toArray, List.set_cons_zero, List.set_cons_succ]
              refine take_on (i := 5) (v := ?v5s3) rfl (by kernel_rfl) (by kernel_rfl) (by kernel_rfl) (fun _ _ _ h => h) (by rfl) ?hy5s3 (by assumption) ?_
              case hy5s3 => intro w hSw; (try dsimp only at hSw); go_simp <;> with_reducible rfl
              try simp only [Act.put, List.setIfInBounds_toArray, List.set_cons_zero, List.set_cons_succ]
              refine take_on (i := 6) (v := ?v6s3) rfl (by kernel_rfl) (by kernel_rfl) (by kernel_rfl) (fun _ _ _ h => h) (by rfl) ?hy6s3 (by assumption) ?_
              case hy6s3 => intro w hSw; (try dsimp only at hSw); go_simp <;> with_reducible rfl
              try simp only [Act.put, List.setIfInBounds_toArray, List.set_cons_zero, List.set_cons_succ]
              refine take_call (i := 4) (by kernel_rfl) rfl (fun K hK => ?_)
              go_simp
              (go_at_call 20; refine (C1.out _).mono ?_; rintro e w' ⟨rfl, hba⟩)
              go_wp2_with fail
              refine hK.out _ _ ?_ (fun hHeld2 => ?_)
              · exact HKS2.out _ _ (by assumption) (by assumption)
              clear hK K hHeld
              have hHeld := hHeld2
              clear hHeld2
              try simp only [Act.put, List.setIfInBounds_toArray, List.set_cons_zero, List.set_cons_succ]
              refine take_call (i := 7) (by kernel_rfl) rfl (fun K hK => ?_)
              go_simp
              (go_at_call 22; refine (R1.out _).mono ?_; rintro e w' ⟨rfl, hba⟩)
              go_wp2_with fail
              refine hK.out _ _ ?_ (fun hHeld2 => ?_)
              · exact HKS2.out _ _ (by assumption) (by assumption)
              clear hK K hHeld
              have hHeld := hHeld2
              clear hHeld2
              try simp only [Act.put, List.setIfInBounds_toArray, List.set_cons_zero, List.set_cons_succ]
              refine take_on (i := 8) (v := ?v8s3) rfl (by kernel_rfl) (by kernel_rfl) (by kernel_rfl) (fun _ _ _ h => h) (by rfl) ?hy8s3 (by assumption) ?_
              case hy8s3 => intro w hSw; (try dsimp only at hSw); go_simp <;> with_reducible rfl
              try simp only [Act.put, List.setIfInBounds_toArray, List.set_cons_zero, List.set_cons_succ]
              refine take_on (i := 9) (v := ?v9s3) rfl (by kernel_rfl) (by kernel_rfl) (by kernel_rfl) (fun _ _ _ h => h) (by rfl) ?hy9s3 (by assumption) ?_
              case hy9s3 => intro w hSw; (try dsimp only at hSw); go_simp <;> with_reducible rfl
              try simp only [Act.put, List.setIfInBounds_toArray, List.set_cons_zero, List.set_cons_succ]
              refine take_on (i := 10) (v := ?v10s3) rfl (by kernel_rfl) (by kernel_rfl) (by kernel_rfl) (fun _ _ _ h => h) (by rfl) ?hy10s3 (by assumption) ?_
              case hy10s3 => intro w hSw; (try dsimp only at hSw); go_simp <;> with_reducible rfl
              try simp only [Act.put, List.setIfInBounds_toArray, List.set_cons_zero, List.set_cons_succ]
              refine take_on (i := 11) (v := ?v11s3) rfl (by kernel_rfl) (by kernel_rfl) (by kernel_rfl) (fun _ _ _ h => h) (by rfl) ?hy11s3 (by assumption) ?_
              case hy11s3 => intro w hSw; (try dsimp only at hSw); go_simp <;> with_reducible rfl
              try simp only [Act.put, List.setIfInBounds_toArray, List.set_cons_zero, List.set_cons_succ]
              refine take_on (i := 12) (v := ?v12s3) rfl (by kernel_rfl) (by kernel_rfl) (by kernel_rfl) (fun _ _ _ h => h) (by rfl) ?hy12s3 (by assumption) ?_
              case hy12s3 => intro w hSw; (try dsimp only at hSw); go_simp <;> with_reducible rfl
              try simp only [Act.put, List.setIfInBounds_toArray, List.set_cons_zero, List.set_cons_succ]
              refine take_on (i := 14) (v := ?v14s3) rfl (by kernel_rfl) (by kernel_rfl) (by kernel_rfl) (fun _ _ _ h => h) (by rfl) ?hy14s3 (by assumption) ?_
              case hy14s3 => intro w hSw; (try dsimp only at hSw); go_simp <;> with_reducible rfl
              try simp only [Act.put, List.setIfInBounds_toArray, List.set_cons_zero, List.set_cons_succ]
              refine take_on (i := 15) (v := ?v15s3) rfl (by kernel_rfl) (by kernel_rfl) (by kernel_rfl) (fun _ _ _ h => h) (by rfl) ?hy15s3 (by assumption) ?_
              case hy15s3 => intro w hSw; (try dsimp only at hSw); go_simp <;> with_reducible rfl
              try simp only [Act.put, List.setIfInBounds_toArray, List.set_cons_zero, List.set_cons_succ]
              refine take_call (i := 13) (by kernel_rfl) rfl (fun K hK => ?_)
              go_simp
              (go_at_call 21; refine (C3.out _).mono ?_; rintro e w' ⟨rfl, hba⟩)
              go_wp2_with fail
              refine hK.out _ _ ?_ (fun hHeld2 => ?_)
              · exact HKS2.out _ _ (by assumption) (by assumption)
              clear hK K hHeld
              have hHeld := hHeld2
              clear hHeld2
              try simp only [Act.put, List.setIfInBounds_toArray, List.set_cons_zero, List.set_cons_succ]
              refine take_call (i := 16) (by kernel_rfl) rfl (fun K hK => ?_)
              go_simp
              (go_at_call 23; refine (R3.out _).mono ?_; rintro e w' ⟨rfl, hba⟩)
              go_wp2_with fail
              refine hK.out _ _ ?_ (fun hHeld2 => ?_)
              · exact HKS2.out _ _ (by assumption) (by assumption)
              clear hK K hHeld
              have hHeld := hHeld2
              clear hHeld2
              try simp only [Act.put, List.setIfInBounds_toArray, List.set_cons_zero, List.set_cons_succ]
              refine take_on (i := 17) (v := ?v17s3) rfl (by kernel_rfl) (by kernel_rfl) (by kernel_rfl) (fun _ _ _ h => h) (by rfl) ?hy17s3 (by assumption) ?_
              case hy17s3 => intro w hSw; (try dsimp only at hSw); go_simp <;> with_reducible rfl
              try simp only [Act.put, List.setIfInBounds_toArray, List.set_cons_zero, List.set_cons_succ]
              refine take_on (i := 18) (v := ?v18s3) rfl (by kernel_rfl) (by kernel_rfl) (by kernel_rfl) (fun _ _ _ h => h) (by rfl) ?hy18s3 (by assumption) ?_
              case hy18s3 => intro w hSw; (try dsimp only at hSw); go_simp <;> with_reducible rfl
              try simp only [Act.put, List.setIfInBounds_toArray, List.set_cons_zero, List.set_cons_succ]
              refine take_on (i := 19) (v := ?v19s3) rfl (by kernel_rfl) (by kernel_rfl) (by kernel_rfl) (fun _ _ _ h => h) (by rfl) ?hy19s3 (by assumption) ?_
              case hy19s3 => intro w hSw; (try dsimp only at hSw); go_simp <;> with_reducible rfl
              try simp only [Act.put, List.setIfInBounds_toArray, List.set_cons_zero, List.set_cons_succ]
              refine take_on (i := 20) (v := ?v20s3) rfl (by kernel_rfl) (by kernel_rfl) (by kernel_rfl) (fun _ _ _ h => h) (by rfl) ?hy20s3 (by assumption) ?_
              case hy20s3 => intro w hSw; (try dsimp only at hSw); go_simp <;> with_reducible rfl
              try simp only [Act.put, List.setIfInBounds_toArray, List.set_cons_zero, List.set_cons_succ]
              refine take_on (i := 21) (v := ?v21s3) rfl (by kernel_rfl) (by kernel_rfl) (by kernel_rfl) (fun _ _ _ h => h) (by rfl) ?hy21s3 (by assumption) ?_
              case hy21s3 => intro w hSw; (try dsimp only at hSw); go_simp <;> with_reducible rfl
              try simp only [Act.put, List.setIfInBounds_toArray, List.set_cons_zero, List.set_cons_succ]
              refine take_on (i := 22) (v := ?v22s3) rfl (by kernel_rfl) (by kernel_rfl) (by kernel_rfl) (fun _ _ _ h => h) (by rfl) ?hy22s3 (by assumption) ?_
              case hy22s3 => intro w hSw; (try dsimp only at hSw); go_simp <;> with_reducible rfl
              try simp only [Act.put, List.setIfInBounds_toArray, List.set_cons_zero, List.set_cons_succ]
              refine take_on (i := 23) (v := ?v23s3) rfl (by kernel_rfl) (by kernel_rfl) (by kernel_rfl) (fun _ _ _ h => h) (by rfl) ?hy23s3 (by assumption) ?_
              case hy23s3 => intro w hSw; (try dsimp only at hSw); go_simp <;> with_reducible rfl
              try simp only [Act.put, List.setIfInBounds_toArray, List.set_cons_zero, List.set_cons_succ]
              refine take_on (i := 24) (v := .bool false) rfl (by kernel_rfl) (by kernel_rfl) (by kernel_rfl) (fun _ _ _ h => h) (by rfl) ?hy243 (by assumption) ?_
              case hy243 => intro w hSw; (try dsimp only at hSw); go_simp <;> first | with_reducible rfl | assumption | omega
              try simp only [Act.put, List.setIfInBounds_toArray, List.set_cons_zero, List.set_cons_succ]
              refine take_on (i := 25) (v := ?v25s3) rfl (by kernel_rfl) (by kernel_rfl) (by kernel_rfl) (fun _ _ _ h => h) (by rfl) ?hy25s3 (by assumption) ?_
              case hy25s3 => intro w hSw; (try dsimp only at hSw); go_simp <;> with_reducible rfl
              try simp only [Act.put, List.setIfInBounds_toArray, List.set_cons_zero, List.set_cons_succ]
              refine take_on (i := 26) (v := ?v26s3) rfl (by kernel_rfl) (by kernel_rfl) (by kernel_rfl) (fun _ _ _ h => h) (by rfl) ?hy26s3 (by assumption) ?_
              case hy26s3 => intro w hSw; (try dsimp only at hSw); go_simp <;> with_reducible rfl
              try simp only [Act.put, List.setIfInBounds_toArray, List.set_cons_zero, List.set_cons_succ]
              refine take_on (i := 27) (v := ?v27s3) rfl (by kernel_rfl) (by kernel_rfl) (by kernel_rfl) (fun _ _ _ h => h) (by rfl) ?hy27s3 (by assumption) ?_
              case hy27s3 => intro w hSw; (try dsimp only at hSw); go_simp <;> with_reducible rfl
              try simp only [Act.put, List.setIfInBounds_toArray, List.set_cons_zero, List.set_cons_succ]
              refine take_call (i := 28) (by kernel_rfl) rfl (fun K hK => ?_)
              go_simp
              (go_at_call 21; refine (C3.out _).mono ?_; rintro e w' ⟨rfl, hba⟩)
              go_wp2_with fail
              refine hK.out _ _ ?_ (fun hHeld2 => ?_)
              · exact HKS2.out _ _ (by assumption) (by assumption)
              clear hK K hHeld
              have hHeld := hHeld2
              clear hHeld2
              try simp only [Act.put, List.setIfInBounds_toArray, List.set_cons_zero, List.set_cons_succ]
              refine take_on (i := 29) (v := ?v29s3) rfl (by kernel_rfl) (by kernel_rfl) (by kernel_rfl) (fun _ _ _ h => h) (by rfl) ?hy29s3 (by assumption) ?_
              case hy29s3 => intro w hSw; (try dsimp only at hSw); go_simp <;> with_reducible rfl
              try simp only [Act.put, List.setIfInBounds_toArray, List.set_cons_zero, List.set_cons_succ]
              refine take_on (i := 30) (v := ?v30s3) rfl (by kernel_rfl) (by kernel_rfl) (by kernel_rfl) (fun _ _ _ h => h) (by rfl) ?hy30s3 (by assumption) ?_
              case hy30s3 => intro w hSw; (try dsimp only at hSw); go_simp <;> with_reducible rfl
              try simp only [Act.put, List.setIfInBounds_toArray, List.set_cons_zero, List.set_cons_succ]
              refine take_on (i := 31) (v := ?v31s3) rfl (by kernel_rfl) (by kernel_rfl) (by kernel_rfl) (fun _ _ _ h => h) (by rfl) ?hy31s3 (by assumption) ?_
              case hy31s3 => intro w hSw; (try dsimp only at hSw); go_simp <;> with_reducible rfl
              try simp only [Act.put, List.setIfInBounds_toArray, List.set_cons_zero, List.set_cons_succ]
              refine take_on (i := 32) (v := ?v32s3) rfl (by kernel_rfl) (by kernel_rfl) (by kernel_rfl) (fun _ _ _ h => h) (by rfl) ?hy32s3 (by assumption) ?_
              case hy32s3 => intro w hSw; (try dsimp only at hSw); go_simp <;> with_reducible rfl
              try simp only [Act.put, List.setIfInBounds_toArray, List.set_cons_zero, List.set_cons_succ]
              refine take_on (i := 33) (v := ?v33s3) rfl (by kernel_rfl) (by kernel_rfl) (by kernel_rfl) (fun _ _ _ h => h) (by rfl) ?hy33s3 (by assumption) ?_
              case hy33s3 => intro w hSw; (try dsimp only at hSw); go_simp <;> with_reducible rfl
              try simp only [Act.put, List.setIfInBounds_toArray, List.set_cons_zero, List.set_cons_succ]
              refine take_call (i := 34) (by kernel_rfl) rfl (fun K hK => ?_)
              go_simp
              (go_at_call 21; refine (C5.out _).mono ?_; rintro e w' ⟨rfl, hba⟩)
              go_wp2_with fail
              refine hK.out _ _ ?_ (fun hHeld2 => ?_)
              · exact HKS2.out _ _ (by assumption) (by assumption)
              clear hK K hHeld
              have hHeld := hHeld2
              clear hHeld2
              try simp only [Act.put, List.setIfInBounds_toArray, List.set_cons_zero, List.set_cons_succ]
              refine take_on (i := 35) (v := ?v35s3) rfl (by kernel_rfl) (by kernel_rfl) (by kernel_rfl) (fun _ _ _ h => h) (by rfl) ?hy35s3 (by assumption) ?_
              case hy35s3 => intro w hSw; (try dsimp only at hSw); go_simp <;> with_reducible rfl
              try simp only [Act.put, List.setIfInBounds_toArray, List.set_cons_zero, List.set_cons_succ]
              refine take_on (i := 36) (v := ?v36s3) rfl (by kernel_rfl) (by kernel_rfl) (by kernel_rfl) (fun _ _ _ h => h) (by rfl) ?hy36s3 (by assumption) ?_
              case hy36s3 => intro w hSw; (try dsimp only at hSw); go_simp <;> with_reducible rfl
              try simp only [Act.put, List.setIfInBounds_toArray, List.set_cons_zero, List.set_cons_succ]
              refine take_on (i := 37) (v := ?v37s3) rfl (by kernel_rfl) (by kernel_rfl) (by kernel_rfl) (fun _ _ _ h => h) (by rfl) ?hy37s3 (by assumption) ?_
              case hy37s3 => intro w hSw; (try dsimp only at hSw); go_simp <;> with_reducible rfl
              try simp only [Act.put, List.setIfInBounds_toArray, List.set_cons_zero, List.set_cons_succ]
              refine take_off (i := 38) rfl (by kernel_rfl) (by kernel_rfl) (by kernel_rfl) (fun _ _ _ h => h) (by rfl) (by assumption) ?_
              try simp only [Act.put, List.setIfInBounds_toArray, List.set_cons_zero, List.set_cons_succ]
              refine take_off (i := 39) rfl (by kernel_rfl) (by kernel_rfl) (by kernel_rfl) (fun _ _ _ h => h) (by rfl) (by assumption) ?_
              try simp only [Act.put, List.setIfInBounds_toArray, List.set_cons_zero, List.set_cons_succ]
              refine take_off (i := 40) rfl (by kernel_rfl) (by kernel_rfl) (by kernel_rfl) (fun _ _ _ h => h) (by rfl) (by assumption) ?_
              try simp only [Act.put, List.setIfInBounds_toArray, List.set_cons_zero, List.set_cons_succ]
              refine take_on (i := 41) (v := ?v41s3) rfl (by kernel_rfl) (by kernel_rfl) (by kernel_rfl) (fun _ _ _ h => h) (by rfl) ?hy41s3 (by assumption) ?_
              case hy41s3 => intro w hSw; (try dsimp only at hSw); go_simp <;> with_reducible rfl
              try simp only [Act.put, List.setIfInBounds_toArray, List.set_cons_zero, List.set_cons_succ]
              refine take_on (i := 42) (v := ?v42s3) rfl (by kernel_rfl) (by kernel_rfl) (by kernel_rfl) (fun _ _ _ h => h) (by rfl) ?hy42s3 (by assumption) ?_
              case hy42s3 => intro w hSw; (try dsimp only at hSw); go_simp <;> with_reducible rfl
              try simp only [Act.put, List.setIfInBounds_toArray, List.set_cons_zero, List.set_cons_succ]
              refine take_on (i := 43) (v := ?v43s3) rfl (by kernel_rfl) (by kernel_rfl) (by kernel_rfl) (fun _ _ _ h => h) (by rfl) ?hy43s3 (by assumption) ?_
              case hy43s3 => intro w hSw; (try dsimp only at hSw); go_simp <;> with_reducible rfl
              try simp only [Act.put, List.setIfInBounds_toArray, List.set_cons_zero, List.set_cons_succ]
              refine wpAnyH_done (by kernel_rfl) ?_ _
              obtain ⟨_, _, _, _, _, _, _, _, _, _, hz⟩ := ‹_ ∧ _ ∧ _ ∧ _ ∧ _ ∧ _ ∧ _ ∧ _ ∧ _ ∧ _ ∧ Below wc.heap.size wc _›
              go_wp2_with fail
              go_ret
              exact ⟨rfl, hbe.trans (hz.mono hbe.size)⟩
            obtain rfl : q6 = true := HT2.out (by first | rfl | trivial) (by first | rfl | trivial)
            refine wp_region_held_drew (S := (fun wa => wa.cell? ⟨A, 0, none⟩ = some (.int .i64 x.1) ∧ wa.cell? ⟨A, 1, none⟩ = some (.int .i64 x.2) ∧ wa.cell? ⟨B, 0, none⟩ = some (.int .i64 y.1) ∧ wa.cell? ⟨B, 1, none⟩ = some (.int .i64 y.2) ∧ wa.cell? ⟨C, 0, none⟩ = some (.int .i64 z.1) ∧ wa.cell? ⟨C, 1, none⟩ = some (.int .i64 z.2) ∧ wa.cell? ⟨w.heap.size, 0, none⟩ = some (.int .i64 x.1) ∧ wa.cell? ⟨w.heap.size, 1, none⟩ = some (.int .i64 x.2) ∧ wa.cell? ⟨(w.heap.size + 1), 0, none⟩ = some (.int .i64 y.1) ∧ wa.cell? ⟨(w.heap.size + 1), 1, none⟩ = some (.int .i64 y.2) ∧ Below wc.heap.size wc wa)) (by kernel_rfl) H0.out (fun hHeld => ?_)
            refine take_call (i := 0) (by kernel_rfl) rfl (fun K hK => ?_)
            go_simp
            (go_at_call 10; refine (alive_any _).mono ?_; rintro e w' ⟨rfl, hba⟩)
            go_wp2_with fail
            refine hK.out _ _ ?_ (fun hHeld2 => ?_)
            · exact HKS2.out _ _ (by assumption) (by assumption)
            clear hK K hHeld
            have hHeld := hHeld2
            clear hHeld2
            try simp only [Act.put, List.setIfInBounds_toArray, List.set_cons_zero, List.set_cons_succ]
            refine take_on (i := 1) (v := ?v1s0) rfl (by kernel_rfl) (by kernel_rfl) (by kernel_rfl) (fun _ _ _ h => h) (by rfl) ?hy1s0 (by assumption) ?_
            case hy1s0 => intro w hSw; (try dsimp only at hSw); go_simp <;> with_reducible rfl
            try simp only [Act.put, List.setIfInBounds_toArray, List.set_cons_zero, List.set_cons_succ]
            refine take_on (i := 2) (v := ?v2s0) rfl (by kernel_rfl) (by kernel_rfl) (by kernel_rfl) (fun _ _ _ h => h) (by rfl) ?hy2s0 (by assumption) ?_
            case hy2s0 => intro w hSw; (try dsimp only at hSw); go_simp <;> with_reducible rfl
            try simp only [Act.put, List.setIfInBounds_toArray, List.set_cons_zero, List.set_cons_succ]
            refine take_on (i := 3) (v := ?v3s0) rfl (by kernel_rfl) (by kernel_rfl) (by kernel_rfl) (fun _ _ _ h => h) (by rfl) ?hy3s0 (by assumption) ?_
            case hy3s0 => intro w hSw; (try dsimp only at hSw); go_simp <;> with_reducible rfl
            try simp only [Act.put, List.setIfInBounds_toArray, List.set_cons_zero, List.set_cons_succ]
            refine take_on (i := 5) (v := ?v5s0) rfl (by kernel_rfl) (by kernel_rfl) (by kernel_rfl) (fun _ _ _ h => h) (by rfl) ?hy5s0 (by assumption) ?_
            case hy5s0 => intro w hSw; (try dsimp only at hSw); go_simp <;> with_reducible rfl
            try simp only [Act.put, List.setIfInBounds_toArray, List.set_cons_zero, List.set_cons_succ]
            refine take_on (i := 6) (v := ?v6s0) rfl (by kernel_rfl) (by kernel_rfl) (by kernel_rfl) (fun _ _ _ h => h) (by rfl) ?hy6s0 (by assumption) ?_
            case hy6s0 => intro w hSw; (try dsimp only at hSw); go_simp <;> with_reducible rfl
            try simp only [Act.put, List.setIfInBounds_toArray, List.set_cons_zero, List.set_cons_succ]
            refine take_call (i := 4) (by kernel_rfl) rfl (fun K hK => ?_)
            go_simp
            (go_at_call 20; refine (C1.out _).mono ?_; rintro e w' ⟨rfl, hba⟩)
            go_wp2_with fail
            refine hK.out _ _ ?_ (fun hHeld2 => ?_)
            · exact HKS2.out _ _ (by assumption) (by assumption)
            clear hK K hHeld
            have hHeld := hHeld2
            clear hHeld2
            try simp only [Act.put, List.setIfInBounds_toArray, List.set_cons_zero, List.set_cons_succ]
            refine take_call (i := 7) (by kernel_rfl) rfl (fun K hK => ?_)
            go_simp
            (go_at_call 22; refine (R1.out _).mono ?_; rintro e w' ⟨rfl, hba⟩)
            go_wp2_with fail
            refine hK.out _ _ ?_ (fun hHeld2 => ?_)
            · exact HKS2.out _ _ (by assumption) (by assumption)
            clear hK K hHeld
            have hHeld := hHeld2
            clear hHeld2
            try simp only [Act.put, List.setIfInBounds_toArray, List.set_cons_zero, List.set_cons_succ]
            refine take_on (i := 8) (v := ?v8s0) rfl (by kernel_rfl) (by kernel_rfl) (by kernel_rfl) (fun _ _ _ h => h) (by rfl) ?hy8s0 (by assumption) ?_
            case hy8s0 => intro w hSw; (try dsimp only at hSw); go_simp <;> with_reducible rfl
            try simp only [Act.put, List.setIfInBounds_toArray, List.set_cons_zero, List.set_cons_succ]
            refine take_on (i := 9) (v := ?v9s0) rfl (by kernel_rfl) (by kernel_rfl) (by kernel_rfl) (fun _ _ _ h => h) (by rfl) ?hy9s0 (by assumption) ?_
            case hy9s0 => intro w hSw; (try dsimp only at hSw); go_simp <;> with_reducible rfl
            try simp only [Act.put, List.setIfInBounds_toArray, List.set_cons_zero, List.set_cons_succ]
            refine take_on (i := 10) (v := ?v10s0) rfl (by kernel_rfl) (by kernel_rfl) (by kernel_rfl) (fun _ _ _ h => h) (by rfl) ?hy10s0 (by assumption) ?_
            case hy10s0 => intro w hSw; (try dsimp only at hSw); go_simp <;> with_reducible rfl
            try simp only [Act.put, List.setIfInBounds_toArray, List.set_cons_zero, List.set_cons_succ]
            refine take_on (i := 11) (v := ?v11s0) rfl (by kernel_rfl) (by kernel_rfl) (by kernel_rfl) (fun _ _ _ h => h) (by rfl) ?hy11s0 (by assumption) ?_
            case hy11s0 => intro w hSw; (try dsimp only at hSw); go_simp <;> with_reducible rfl
            try simp only [Act.put, List.setIfInBounds_toArray, List.set_cons_zero, List.set_cons_succ]
            refine take_on (i := 12) (v := ?v12s0) rfl (by kernel_rfl) (by kernel_rfl) (by kernel_rfl) (fun _ _ _ h => h) (by rfl) ?hy12s0 (by assumption) ?_
            case hy12s0 => intro w hSw; (try dsimp only at hSw); go_simp <;> with_reducible rfl
            try simp only [Act.put, List.setIfInBounds_toArray, List.set_cons_zero, List.set_cons_succ]
            refine take_on (i := 14) (v := ?v14s0) rfl (by kernel_rfl) (by kernel_rfl) (by kernel_rfl) (fun _ _ _ h => h) (by rfl) ?hy14s0 (by assumption) ?_
            case hy14s0 => intro w hSw; (try dsimp only at hSw); go_simp <;> with_reducible rfl
            try simp only [Act.put, List.setIfInBounds_toArray, List.set_cons_zero, List.set_cons_succ]
            refine take_on (i := 15) (v := ?v15s0) rfl (by kernel_rfl) (by kernel_rfl) (by kernel_rfl) (fun _ _ _ h => h) (by rfl) ?hy15s0 (by assumption) ?_
            case hy15s0 => intro w hSw; (try dsimp only at hSw); go_simp <;> with_reducible rfl
            try simp only [Act.put, List.setIfInBounds_toArray, List.set_cons_zero, List.set_cons_succ]
            refine take_call (i := 13) (by kernel_rfl) rfl (fun K hK => ?_)
            go_simp
            (go_at_call 21; refine (C3.out _).mono ?_; rintro e w' ⟨rfl, hba⟩)
            go_wp2_with fail
            refine hK.out _ _ ?_ (fun hHeld2 => ?_)
            · exact HKS2.out _ _ (by assumption) (by assumption)
            clear hK K hHeld
            have hHeld := hHeld2
            clear hHeld2
            try simp only [Act.put, List.setIfInBounds_toArray, List.set_cons_zero, List.set_cons_succ]
            refine take_call (i := 16) (by kernel_rfl) rfl (fun K hK => ?_)
            go_simp
            (go_at_call 23; refine (R3.out _).mono ?_; rintro e w' ⟨rfl, hba⟩)
            go_wp2_with fail
            refine hK.out _ _ ?_ (fun hHeld2 => ?_)
            · exact HKS2.out _ _ (by assumption) (by assumption)
            clear hK K hHeld
            have hHeld := hHeld2
            clear hHeld2
            try simp only [Act.put, List.setIfInBounds_toArray, List.set_cons_zero, List.set_cons_succ]
            refine take_on (i := 17) (v := ?v17s0) rfl (by kernel_rfl) (by kernel_rfl) (by kernel_rfl) (fun _ _ _ h => h) (by rfl) ?hy17s0 (by assumption) ?_
            case hy17s0 => intro w hSw; (try dsimp only at hSw); go_simp <;> with_reducible rfl
            try simp only [Act.put, List.setIfInBounds_toArray, List.set_cons_zero, List.set_cons_succ]
            refine take_on (i := 18) (v := ?v18s0) rfl (by kernel_rfl) (by kernel_rfl) (by kernel_rfl) (fun _ _ _ h => h) (by rfl) ?hy18s0 (by assumption) ?_
            case hy18s0 => intro w hSw; (try dsimp only at hSw); go_simp <;> with_reducible rfl
            try simp only [Act.put, List.setIfInBounds_toArray, List.set_cons_zero, List.set_cons_succ]
            refine take_on (i := 19) (v := ?v19s0) rfl (by kernel_rfl) (by kernel_rfl) (by kernel_rfl) (fun _ _ _ h => h) (by rfl) ?hy19s0 (by assumption) ?_
            case hy19s0 => intro w hSw; (try dsimp only at hSw); go_simp <;> with_reducible rfl
            try simp only [Act.put, List.setIfInBounds_toArray, List.set_cons_zero, List.set_cons_succ]
            refine take_on (i := 20) (v := ?v20s0) rfl (by kernel_rfl) (by kernel_rfl) (by kernel_rfl) (fun _ _ _ h => h) (by rfl) ?hy20s0 (by assumption) ?_
            case hy20s0 => intro w hSw; (try dsimp only at hSw); go_simp <;> with_reducible rfl
            try simp only [Act.put, List.setIfInBounds_toArray, List.set_cons_zero, List.set_cons_succ]
            refine take_on (i := 21) (v := ?v21s0) rfl (by kernel_rfl) (by kernel_rfl) (by kernel_rfl) (fun _ _ _ h => h) (by rfl) ?hy21s0 (by assumption) ?_
            case hy21s0 => intro w hSw; (try dsimp only at hSw); go_simp <;> with_reducible rfl
            try simp only [Act.put, List.setIfInBounds_toArray, List.set_cons_zero, List.set_cons_succ]
            refine take_on (i := 22) (v := ?v22s0) rfl (by kernel_rfl) (by kernel_rfl) (by kernel_rfl) (fun _ _ _ h => h) (by rfl) ?hy22s0 (by assumption) ?_
            case hy22s0 => intro w hSw; (try dsimp only at hSw); go_simp <;> with_reducible rfl
            try simp only [Act.put, List.setIfInBounds_toArray, List.set_cons_zero, List.set_cons_succ]
            refine take_on (i := 23) (v := ?v23s0) rfl (by kernel_rfl) (by kernel_rfl) (by kernel_rfl) (fun _ _ _ h => h) (by rfl) ?hy23s0 (by assumption) ?_
            case hy23s0 => intro w hSw; (try dsimp only at hSw); go_simp <;> with_reducible rfl
            try simp only [Act.put, List.setIfInBounds_toArray, List.set_cons_zero, List.set_cons_succ]
            refine take_on (i := 24) (v := .bool false) rfl (by kernel_rfl) (by kernel_rfl) (by kernel_rfl) (fun _ _ _ h => h) (by rfl) ?hy240 (by assumption) ?_
            case hy240 => intro w hSw; (try dsimp only at hSw); go_simp <;> first | with_reducible rfl | assumption | omega
            try simp only [Act.put, List.setIfInBounds_toArray, List.set_cons_zero, List.set_cons_succ]
            refine take_on (i := 25) (v := ?v25s0) rfl (by kernel_rfl) (by kernel_rfl) (by kernel_rfl) (fun _ _ _ h => h) (by rfl) ?hy25s0 (by assumption) ?_
            case hy25s0 => intro w hSw; (try dsimp only at hSw); go_simp <;> with_reducible rfl
            try simp only [Act.put, List.setIfInBounds_toArray, List.set_cons_zero, List.set_cons_succ]
            refine take_on (i := 26) (v := ?v26s0) rfl (by kernel_rfl) (by kernel_rfl) (by kernel_rfl) (fun _ _ _ h => h) (by rfl) ?hy26s0 (by assumption) ?_
            case hy26s0 => intro w hSw; (try dsimp only at hSw); go_simp <;> with_reducible rfl
            try simp only [Act.put, List.setIfInBounds_toArray, List.set_cons_zero, List.set_cons_succ]
            refine take_on (i := 27) (v := ?v27s0) rfl (by kernel_rfl) (by kernel_rfl) (by kernel_rfl) (fun _ _ _ h => h) (by rfl) ?hy27s0 (by assumption) ?_
            case hy27s0 => intro w hSw; (try dsimp only at hSw); go_simp <;> with_reducible rfl
            try simp only [Act.put, List.setIfInBounds_toArray, List.set_cons_zero, List.set_cons_succ]
            refine take_call (i := 28) (by kernel_rfl) rfl (fun K hK => ?_)
            go_simp
            (go_at_call 21; refine (C3.out _).mono ?_; rintro e w' ⟨rfl, hba⟩)
            go_wp2_with fail
            refine hK.out _ _ ?_ (fun hHeld2 => ?_)
            · exact HKS2.out _ _ (by assumption) (by assumption)
            clear hK K hHeld
            have hHeld := hHeld2
            clear hHeld2
            try simp only [Act.put, List.setIfInBounds_toArray, List.set_cons_zero, List.set_cons_succ]
            refine take_on (i := 29) (v := ?v29s0) rfl (by kernel_rfl) (by kernel_rfl) (by kernel_rfl) (fun _ _ _ h => h) (by rfl) ?hy29s0 (by assumption) ?_
            case hy29s0 => intro w hSw; (try dsimp only at hSw); go_simp <;> with_reducible rfl
            try simp only [Act.put, List.setIfInBounds_toArray, List.set_cons_zero, List.set_cons_succ]
            refine take_on (i := 30) (v := ?v30s0) rfl (by kernel_rfl) (by kernel_rfl) (by kernel_rfl) (fun _ _ _ h => h) (by rfl) ?hy30s0 (by assumption) ?_
            case hy30s0 => intro w hSw; (try dsimp only at hSw); go_simp <;> with_reducible rfl
            try simp only [Act.put, List.setIfInBounds_toArray, List.set_cons_zero, List.set_cons_succ]
            refine take_on (i := 31) (v := ?v31s0) rfl (by kernel_rfl) (by kernel_rfl) (by kernel_rfl) (fun _ _ _ h => h) (by rfl) ?hy31s0 (by assumption) ?_
            case hy31s0 => intro w hSw; (try dsimp only at hSw); go_simp <;> with_reducible rfl
            try simp only [Act.put, List.setIfInBounds_toArray, List.set_cons_zero, List.set_cons_succ]
            refine take_on (i := 32) (v := ?v32s0) rfl (by kernel_rfl) (by kernel_rfl) (by kernel_rfl) (fun _ _ _ h => h) (by rfl) ?hy32s0 (by assumption) ?_
            case hy32s0 => intro w hSw; (try dsimp only at hSw); go_simp <;> with_reducible rfl
            try simp only [Act.put, List.setIfInBounds_toArray, List.set_cons_zero, List.set_cons_succ]
            refine take_on (i := 33) (v := ?v33s0) rfl (by kernel_rfl) (by kernel_rfl) (by kernel_rfl) (fun _ _ _ h => h) (by rfl) ?hy33s0 (by assumption) ?_
            case hy33s0 => intro w hSw; (try dsimp only at hSw); go_simp <;> with_reducible rfl
            try simp only [Act.put, List.setIfInBounds_toArray, List.set_cons_zero, List.set_cons_succ]
            refine take_call (i := 34) (by kernel_rfl) rfl (fun K hK => ?_)
            go_simp
            (go_at_call 21; refine (C5.out _).mono ?_; rintro e w' ⟨rfl, hba⟩)
            go_wp2_with fail
            refine hK.out _ _ ?_ (fun hHeld2 => ?_)
            · exact HKS2.out _ _ (by assumption) (by assumption)
            clear hK K hHeld
            have hHeld := hHeld2
            clear hHeld2
            try simp only [Act.put, List.setIfInBounds_toArray, List.set_cons_zero, List.set_cons_succ]
            refine take_on (i := 35) (v := ?v35s0) rfl (by kernel_rfl) (by kernel_rfl) (by kernel_rfl) (fun _ _ _ h => h) (by rfl) ?hy35s0 (by assumption) ?_
            case hy35s0 => intro w hSw; (try dsimp only at hSw); go_simp <;> with_reducible rfl
            try simp only [Act.put, List.setIfInBounds_toArray, List.set_cons_zero, List.set_cons_succ]
            refine take_on (i := 36) (v := ?v36s0) rfl (by kernel_rfl) (by kernel_rfl) (by kernel_rfl) (fun _ _ _ h => h) (by rfl) ?hy36s0 (by assumption) ?_
            case hy36s0 => intro w hSw; (try dsimp only at hSw); go_simp <;> with_reducible rfl
            try simp only [Act.put, List.setIfInBounds_toArray, List.set_cons_zero, List.set_cons_succ]
            refine take_on (i := 37) (v := ?v37s0) rfl (by kernel_rfl) (by kernel_rfl) (by kernel_rfl) (fun _ _ _ h => h) (by rfl) ?hy37s0 (by assumption) ?_
            case hy37s0 => intro w hSw; (try dsimp only at hSw); go_simp <;> with_reducible rfl
            try simp only [Act.put, List.setIfInBounds_toArray, List.set_cons_zero, List.set_cons_succ]
            refine take_on (i := 38) (v := ?v38s0) rfl (by kernel_rfl) (by kernel_rfl) (by kernel_rfl) (fun _ _ _ h => h) (by rfl) ?hy38s0 (by assumption) ?_
            case hy38s0 => intro w hSw; (try dsimp only at hSw); go_simp <;> with_reducible rfl
            try simp only [Act.put, List.setIfInBounds_toArray, List.set_cons_zero, List.set_cons_succ]
            refine take_on (i := 39) (v := ?v39s0) rfl (by kernel_rfl) (by kernel_rfl) (by kernel_rfl) (fun _ _ _ h => h) (by rfl) ?hy39s0 (by assumption) ?_
            case hy39s0 => intro w hSw; (try dsimp only at hSw); go_simp <;> with_reducible rfl
            try simp only [Act.put, List.setIfInBounds_toArray, List.set_cons_zero, List.set_cons_succ]
            refine take_call (i := 40) (by kernel_rfl) rfl (fun K hK => ?_)
            go_simp
            (go_at_call 21; refine (C6.out _).mono ?_; rintro e w' ⟨rfl, hba⟩)
            go_wp2_with fail
            refine hK.out _ _ ?_ (fun hHeld2 => ?_)
            · exact HKS2.out _ _ (by assumption) (by assumption)
            clear hK K hHeld
            have hHeld := hHeld2
            clear hHeld2
            try simp only [Act.put, List.setIfInBounds_toArray, List.set_cons_zero, List.set_cons_succ]
            refine take_on (i := 41) (v := ?v41s0) rfl (by kernel_rfl) (by kernel_rfl) (by kernel_rfl) (fun _ _ _ h => h) (by rfl) ?hy41s0 (by assumption) ?_
            case hy41s0 => intro w hSw; (try dsimp only at hSw); go_simp <;> with_reducible rfl
            try simp only [Act.put, List.setIfInBounds_toArray, List.set_cons_zero, List.set_cons_succ]
            refine take_on (i := 42) (v := ?v42s0) rfl (by kernel_rfl) (by kernel_rfl) (by kernel_rfl) (fun _ _ _ h => h) (by rfl) ?hy42s0 (by assumption) ?_
            case hy42s0 => intro w hSw; (try dsimp only at hSw); go_simp <;> with_reducible rfl
            try simp only [Act.put, List.setIfInBounds_toArray, List.set_cons_zero, List.set_cons_succ]
            refine take_on (i := 43) (v := ?v43s0) rfl (by kernel_rfl) (by kernel_rfl) (by kernel_rfl) (fun _ _ _ h => h) (by rfl) ?hy43s0 (by assumption) ?_
            case hy43s0 => intro w hSw; (try dsimp only at hSw); go_simp <;> with_reducible rfl
            try simp only [Act.put, List.setIfInBounds_toArray, List.set_cons_zero, List.set_cons_succ]
            refine wpAnyH_done (by kernel_rfl) ?_ _
            obtain ⟨_, _, _, _, _, _, _, _, _, _, hz⟩ := ‹_ ∧ _ ∧ _ ∧ _ ∧ _ ∧ _ ∧ _ ∧ _ ∧ _ ∧ _ ∧ Below wc.heap.size wc _›
            go_wp2_with fail
            go_ret
            exact ⟨rfl, hbe.trans (hz.mono hbe.size)⟩
end Go.Proofs.Ytahdlbckcddeeaa
