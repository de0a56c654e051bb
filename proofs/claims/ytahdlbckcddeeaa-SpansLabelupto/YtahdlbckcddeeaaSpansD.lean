/- WALKS OF LAYER 14 (spans): the document's Levels. -/
import Derived.Test.YtahdlbckcddeeaaSpansC
import Derived.Test.YtahdlbckcddeeaaSpansPlain2
import Derived.Test.YtahdlbckcddeeaaKit2
namespace Go.Proofs.Ytahdlbckcddeeaa
open Go.RowKit
set_option linter.unusedVariables false
set_option maxRecDepth 100000 in
theorem rlevels_nil (a : Option Addr) (cap : Nat) (w : World) : Calls Try.prog 24 #[.slice a 0 cap] w (LevelsPost (some []) w) := by
  go_enter Try.func24, Try.ntmps24
  go_wp2_with fail
  go_loopw [4, 5] (fun u i wr => u = .slice none 0 0 ∧ i = .int .i64 0 ∧ w = wr) (fun _ i _ => 0)
  case atStart => exact ⟨rfl, rfl, rfl⟩
  case round =>
    obtain ⟨rfl, rfl, rfl⟩ := hrel
    go_wp2_with fail
    go_ret2
    exact ⟨_, rfl, OwnS.nil _ _ _ _, Below.refl _ _⟩
set_option maxRecDepth 100000 in
set_option maxHeartbeats 4000000 in
theorem rlevels_some (b off len cap : Nat) (s : List (Int × Int)) (hl : len = s.length) (h0 : 0 < len) (hlen : len ≤ 1048576) (w : World) (hi : SpansAt w b off s) :
    Calls Try.prog 24 #[.slice (some ⟨b, off, none⟩) len cap] w (LevelsPost (refLevelsP s) w) := by
  have hbl : b < w.heap.size := block_lt_of_cell (hi 0 (by omega)).1
  have HI := Lib.hid hi
  have HL := Lib.hid hl
  clear hi hl
  obtain ⟨j0, hj, hj0, hj1, hj2⟩ := info_parts infoInt
  go_enter Try.func24, Try.ntmps24
  go_wp2_with fail
  go_loopw [4, 5] (fun u i wr => ∃ (k : Nat), k ≤ len ∧ i = .int .i64 k ∧ OwnS wr w.heap.size 3 1 u k (((List.range k).map (fun k => (cntTo s k k : Int))).map (Value.int .i64)) ∧ (∀ j, j < k → refOk s j = true) ∧ Below w.heap.size w wr) (fun _ i _ => len - (intOf i).toNat)
  case atStart => exact ⟨0, by omega, rfl, OwnS.nil _ _ _ _, by omega, Below.refl _ _⟩
  case round =>
    obtain ⟨k, hk, rfl, hou, hok, hb⟩ := hrel
    have HOK := Lib.hid hok
    clear hok
    by_cases hlt : k < len
    · obtain ⟨x, hx⟩ : ∃ x, x = s.getD k default := ⟨_, rfl⟩
      have hc := (HI.out.below hb) k (by rw [← HL.out]; exact hlt)
      rw [← hx] at hc
      obtain ⟨c1, c2⟩ := hc
      have HX := Lib.hid hx
      clear hx
      have hblr : b < wr.heap.size := Nat.lt_of_lt_of_le hbl hb.size
      obtain ⟨q1, hq1⟩ : ∃ q, insideB x.1 = q := ⟨_, rfl⟩
      obtain ⟨q2, hq2⟩ : ∃ q, insideB x.2 = q := ⟨_, rfl⟩
      have HC1 : Hid (∀ w, Calls Try.prog 27 #[.int .i64 x.1] w fun e w' => e = .returned (.bool q1) ∧ w' = w) := fun w => (rinside_any x.1 w).mono fun e w' ⟨he, hw⟩ => ⟨by rw [he, hq1], hw.symm⟩
      have HC2 : Hid (∀ w, Calls Try.prog 27 #[.int .i64 x.2] w fun e w' => e = .returned (.bool q2) ∧ w' = w) := fun w => (rinside_any x.2 w).mono fun e w' ⟨he, hw⟩ => ⟨by rw [he, hq2], hw.symm⟩
      have HQ1 := Lib.hid hq1
      have HQ2 := Lib.hid hq2
      clear hq1 hq2
      obtain ⟨qx, hqx⟩ : ∃ q, decide (x.1 < x.2) = q := ⟨_, rfl⟩
      have HH : Hid (headOk s k = (q1 && q2 && qx)) := by
        unfold headOk
        rw [← HX.out, HQ1.out, HQ2.out, hqx]
        rfl
      cases q1
      case false =>
        go_wp2_with fail
        go_quiet (first | (go_at_call 27; exact Calls.quiet_of_same (HC1.out _)) | (go_at_call 27; exact Calls.quiet_of_same (HC2.out _)))
        go_wp2_with fail
        go_ret2
        rw [refLevels_no s k (by rw [← HL.out]; exact hlt) (refOk_head s k HH.out)]
        exact ⟨rfl, below_drewN hb _⟩
      cases q2
      case false =>
        go_wp2_with fail
        go_quiet (first | (go_at_call 27; exact Calls.quiet_of_same (HC1.out _)) | (go_at_call 27; exact Calls.quiet_of_same (HC2.out _)))
        go_wp2_with fail
        go_ret2
        rw [refLevels_no s k (by rw [← HL.out]; exact hlt) (refOk_head s k HH.out)]
        exact ⟨rfl, below_drewN hb _⟩
      cases qx
      case false =>
        have hxx : x.2 ≤ x.1 := by simpa using hqx
        clear hqx
        go_wp2_with fail
        go_quiet (first | (go_at_call 27; exact Calls.quiet_of_same (HC1.out _)) | (go_at_call 27; exact Calls.quiet_of_same (HC2.out _)))
        go_wp2_with fail
        go_ret2
        rw [refLevels_no s k (by rw [← HL.out]; exact hlt) (refOk_head s k HH.out)]
        exact ⟨rfl, below_drewN hb _⟩
      have hxx : ¬ x.2 ≤ x.1 := by have : x.1 < x.2 := by simpa using hqx
                                   omega
      clear hqx
      go_wp2_with fail
      go_quiet (first | (go_at_call 27; exact Calls.quiet_of_same (HC1.out _)) | (go_at_call 27; exact Calls.quiet_of_same (HC2.out _)))
      clear HC1 HC2
      generalize hz : World.drewN _ _ = wo
      have bo : Below wr.heap.size wr wo := hz ▸ below_drewN (Below.refl _ _) _
      clear hz
      have hou2 := hou.below bo
      have hbo : Below w.heap.size w wo := hb.trans (bo.mono hb.size)
      clear hou c1 c2 bo hb hblr
      go_wp2_with fail
      go_loopw [6, 7] (fun n j wr => ∃ i : Nat, i ≤ k ∧ j = .int .i64 i ∧ n = .int .i64 (cntTo s k i : Nat) ∧ (∀ l, l < i → pairOk s k l = true) ∧ OwnS wr w.heap.size 3 1 u4 k (((List.range k).map (fun k => (cntTo s k k : Int))).map (Value.int .i64)) ∧ Below w.heap.size w wr) (fun _ j _ => k - (intOf j).toNat)
      case atStart => exact ⟨0, by omega, rfl, rfl, by omega, hou2, hbo⟩
      case round =>
        obtain ⟨i, hi, rfl, rfl, hpk, hou3, hb3⟩ := hrel
        have HPK := Lib.hid hpk
        clear hpk
        by_cases hik : i < k
        · have hc := (HI.out.below hb3) k (by rw [← HL.out]; exact hlt)
          rw [← HX.out] at hc
          obtain ⟨c1, c2⟩ := hc
          obtain ⟨y, hy⟩ : ∃ y, y = s.getD i default := ⟨_, rfl⟩
          have hc := (HI.out.below hb3) i (by rw [← HL.out]; omega)
          rw [← hy] at hc
          obtain ⟨d1, d2⟩ := hc
          have HY := Lib.hid hy
          clear hy
          obtain ⟨qi, hqi⟩ : ∃ q, inB x y = q := ⟨_, rfl⟩
          obtain ⟨qa, hqa⟩ : ∃ q, aheadB y x = q := ⟨_, rfl⟩
          have HCI : Hid (∀ w, Calls Try.prog 22 #[.agg #[.int .i64 x.1, .int .i64 x.2], .agg #[.int .i64 y.1, .int .i64 y.2]] w fun e w' => e = .returned (.bool qi) ∧ Below w.heap.size w w') := fun w => (rspn_in x y w).mono fun e w' ⟨he, hw⟩ => ⟨by rw [he, hqi], hw⟩
          have HCA : Hid (∀ w, Calls Try.prog 23 #[.agg #[.int .i64 y.1, .int .i64 y.2], .agg #[.int .i64 x.1, .int .i64 x.2]] w fun e w' => e = .returned (.bool qa) ∧ Below w.heap.size w w') := fun w => (rspn_ahead y x w).mono fun e w' ⟨he, hw⟩ => ⟨by rw [he, hqa], hw⟩
          have HP : Hid (pairOk s k i = (decide (y.1 < x.1) && (qi || qa))) := by
            unfold pairOk
            rw [← HX.out, ← HY.out, hqi, hqa]
            rfl
          have HQI := Lib.hid hqi
          clear hqi hqa
          have z1 : (0 : Int) ≤ (i : Int) := by omega
          have z2 : (i : Int) < (len : Int) := by omega
          have z3 : (0 : Int) ≤ (k : Int) := by omega
          have z4 : (k : Int) < (len : Int) := by omega
          have HKS : Hid (∀ wa wb : World, Below wa.heap.size wa wb → (wa.cell? ⟨b, off + i * 2, none⟩ = some (.int .i64 y.1) ∧ wa.cell? ⟨b, off + i * 2 + 1, none⟩ = some (.int .i64 y.2) ∧ wa.cell? ⟨b, off + k * 2, none⟩ = some (.int .i64 x.1) ∧ wa.cell? ⟨b, off + k * 2 + 1, none⟩ = some (.int .i64 x.2) ∧ Below wr.heap.size wr wa) →
              (wb.cell? ⟨b, off + i * 2, none⟩ = some (.int .i64 y.1) ∧ wb.cell? ⟨b, off + i * 2 + 1, none⟩ = some (.int .i64 y.2) ∧ wb.cell? ⟨b, off + k * 2, none⟩ = some (.int .i64 x.1) ∧ wb.cell? ⟨b, off + k * 2 + 1, none⟩ = some (.int .i64 x.2) ∧ Below wr.heap.size wr wb)) := fun wa wb h hs => by
            obtain ⟨s1, s2, s3, s4, s5⟩ := hs
            exact ⟨(h.cell (block_lt_of_cell s1)).trans s1, (h.cell (block_lt_of_cell s2)).trans s2, (h.cell (block_lt_of_cell s3)).trans s3, (h.cell (block_lt_of_cell s4)).trans s4, s5.trans (h.mono s5.size)⟩
          by_cases hyx : x.1 ≤ y.1
          · clear HCI HCA HKS
            go_wp2_with fail
            go_quiet (fail)
            go_wp2_with fail
            go_ret2
            have HPF : Hid (pairOk s k i = false) := by rw [HP.out, decide_eq_false (by omega)]; rfl
            rw [refLevels_no s k (by rw [← HL.out]; exact hlt) (refOk_pair s k i hik (HPF.out))]
            exact ⟨rfl, below_drewN hb3 _⟩
          cases qi
          · cases qa
            · go_wp2_with fail
              have hyn : ¬ x.1 ≤ y.1 := by omega
              go_region_held3 (fun w' => w'.cell? ⟨b, off + i * 2, none⟩ = some (.int .i64 y.1) ∧ w'.cell? ⟨b, off + i * 2 + 1, none⟩ = some (.int .i64 y.2) ∧ w'.cell? ⟨b, off + k * 2, none⟩ = some (.int .i64 x.1) ∧ w'.cell? ⟨b, off + k * 2 + 1, none⟩ = some (.int .i64 x.2) ∧ Below wr.heap.size wr w')
                (first | exact HKS.out _ _ (by assumption) (by assumption) | exact ⟨d1, d2, c1, c2, (Below.refl _ _).drew⟩ | go_keep)
                (first | (go_at_call 22; refine (HCI.out _).mono ?_; rintro e w' ⟨rfl, hba⟩) | (go_at_call 23; refine (HCA.out _).mono ?_; rintro e w' ⟨rfl, hba⟩))
              obtain ⟨_, _, _, _, h5⟩ := ‹_ ∧ _ ∧ _ ∧ _ ∧ Below wr.heap.size wr _›
              go_wp2_with fail
              go_ret2
              have HPF : Hid (pairOk s k i = false) := by rw [HP.out]; simp; exact Lib.hid trivial
              rw [refLevels_no s k (by rw [← HL.out]; exact hlt) (refOk_pair s k i hik (HPF.out))]
              exact ⟨rfl, hb3.trans (h5.mono hb3.size)⟩
            · go_wp2_with fail
              have hyn : ¬ x.1 ≤ y.1 := by omega
              go_region_held3 (fun w' => w'.cell? ⟨b, off + i * 2, none⟩ = some (.int .i64 y.1) ∧ w'.cell? ⟨b, off + i * 2 + 1, none⟩ = some (.int .i64 y.2) ∧ w'.cell? ⟨b, off + k * 2, none⟩ = some (.int .i64 x.1) ∧ w'.cell? ⟨b, off + k * 2 + 1, none⟩ = some (.int .i64 x.2) ∧ Below wr.heap.size wr w')
                (first | exact HKS.out _ _ (by assumption) (by assumption) | exact ⟨d1, d2, c1, c2, (Below.refl _ _).drew⟩ | go_keep)
                (first | (go_at_call 22; refine (HCI.out _).mono ?_; rintro e w' ⟨rfl, hba⟩) | (go_at_call 23; refine (HCA.out _).mono ?_; rintro e w' ⟨rfl, hba⟩))
              obtain ⟨d1, d2, c1, c2, h5⟩ := ‹_ ∧ _ ∧ _ ∧ _ ∧ Below wr.heap.size wr _›
              go_wp2_with fail
              go_region_held3 (fun w' => w'.cell? ⟨b, off + i * 2, none⟩ = some (.int .i64 y.1) ∧ w'.cell? ⟨b, off + i * 2 + 1, none⟩ = some (.int .i64 y.2) ∧ w'.cell? ⟨b, off + k * 2, none⟩ = some (.int .i64 x.1) ∧ w'.cell? ⟨b, off + k * 2 + 1, none⟩ = some (.int .i64 x.2) ∧ Below wr.heap.size wr w')
                (first | exact HKS.out _ _ (by assumption) (by assumption) | exact ⟨d1, d2, c1, c2, h5.drew⟩ | go_keep)
                (first | (go_at_call 22; refine (HCI.out _).mono ?_; rintro e w' ⟨rfl, hba⟩) | (go_at_call 23; refine (HCA.out _).mono ?_; rintro e w' ⟨rfl, hba⟩))
              obtain ⟨_, _, _, _, h6⟩ := ‹_ ∧ _ ∧ _ ∧ _ ∧ Below wr.heap.size wr _›
              go_wp2_with fail
              go_roundw
              case rel =>
                refine ⟨i + 1, by omega, by go_num, ?_, fun l hl => ?_, hou3.below h6, hb3.trans (h6.mono hb3.size)⟩
                · rw [cntTo_succ, ← HX.out, ← HY.out, HQI.out]; simp
                · by_cases hji : l < i
                  · exact HPK.out l hji
                  · obtain rfl : l = i := by omega
                    rw [HP.out, decide_eq_true (by omega)]; rfl
              case measure => simp [intOf]; omega
          · go_wp2_with fail
            have hyn : ¬ x.1 ≤ y.1 := by omega
            refine wp_region_held_drew (S := (fun w' => w'.cell? ⟨b, off + i * 2, none⟩ = some (.int .i64 y.1) ∧ w'.cell? ⟨b, off + i * 2 + 1, none⟩ = some (.int .i64 y.2) ∧ w'.cell? ⟨b, off + k * 2, none⟩ = some (.int .i64 x.1) ∧ w'.cell? ⟨b, off + k * 2 + 1, none⟩ = some (.int .i64 x.2) ∧ Below wr.heap.size wr w')) (by kernel_rfl) ?_ (fun hHeld => ?_)
            · exact ⟨d1, d2, c1, c2, (Below.refl _ _).drew⟩
            refine take_on (i := 0) (v := ?v0) rfl (by kernel_rfl) (by kernel_rfl) (by kernel_rfl) (fun _ _ _ h => h) (by rfl) ?hy0 (by assumption) ?_
            case hy0 => intro w hSw; (try dsimp only at hSw); go_simp <;> with_reducible rfl
            try simp only [Act.put, List.setIfInBounds_toArray, List.set_cons_zero, List.set_cons_succ]
            refine take_on (i := 1) (v := ?v1) rfl (by kernel_rfl) (by kernel_rfl) (by kernel_rfl) (fun _ _ _ h => h) (by rfl) ?hy1 (by assumption) ?_
            case hy1 => intro w hSw; (try dsimp only at hSw); go_simp <;> with_reducible rfl
            try simp only [Act.put, List.setIfInBounds_toArray, List.set_cons_zero, List.set_cons_succ]
            refine take_on (i := 2) (v := ?v2) rfl (by kernel_rfl) (by kernel_rfl) (by kernel_rfl) (fun _ _ _ h => h) (by rfl) ?hy2 (by assumption) ?_
            case hy2 => intro w hSw; (try dsimp only at hSw); go_simp <;> with_reducible rfl
            try simp only [Act.put, List.setIfInBounds_toArray, List.set_cons_zero, List.set_cons_succ]
            refine take_on (i := 3) (v := ?v3) rfl (by kernel_rfl) (by kernel_rfl) (by kernel_rfl) (fun _ _ _ h => h) (by rfl) ?hy3 (by assumption) ?_
            case hy3 => intro w hSw; (try dsimp only at hSw); go_simp <;> with_reducible rfl
            try simp only [Act.put, List.setIfInBounds_toArray, List.set_cons_zero, List.set_cons_succ]
            refine take_on (i := 4) (v := ?v4) rfl (by kernel_rfl) (by kernel_rfl) (by kernel_rfl) (fun _ _ _ h => h) (by rfl) ?hy4 (by assumption) ?_
            case hy4 => intro w hSw; (try dsimp only at hSw); go_simp <;> with_reducible rfl
            try simp only [Act.put, List.setIfInBounds_toArray, List.set_cons_zero, List.set_cons_succ]
            refine take_on (i := 5) (v := ?v5) rfl (by kernel_rfl) (by kernel_rfl) (by kernel_rfl) (fun _ _ _ h => h) (by rfl) ?hy5 (by assumption) ?_
            case hy5 => intro w hSw; (try dsimp only at hSw); go_simp <;> with_reducible rfl
            try simp only [Act.put, List.setIfInBounds_toArray, List.set_cons_zero, List.set_cons_succ]
            refine take_on (i := 6) (v := ?v6) rfl (by kernel_rfl) (by kernel_rfl) (by kernel_rfl) (fun _ _ _ h => h) (by rfl) ?hy6 (by assumption) ?_
            case hy6 => intro w hSw; (try dsimp only at hSw); go_simp <;> with_reducible rfl
            try simp only [Act.put, List.setIfInBounds_toArray, List.set_cons_zero, List.set_cons_succ]
            refine take_on (i := 7) (v := ?v7) rfl (by kernel_rfl) (by kernel_rfl) (by kernel_rfl) (fun _ _ _ h => h) (by rfl) ?hy7 (by assumption) ?_
            case hy7 => intro w hSw; (try dsimp only at hSw); go_simp <;> with_reducible rfl
            try simp only [Act.put, List.setIfInBounds_toArray, List.set_cons_zero, List.set_cons_succ]
            refine take_on (i := 8) (v := ?v8) rfl (by kernel_rfl) (by kernel_rfl) (by kernel_rfl) (fun _ _ _ h => h) (by rfl) ?hy8 (by assumption) ?_
            case hy8 => intro w hSw; (try dsimp only at hSw); go_simp <;> with_reducible rfl
            try simp only [Act.put, List.setIfInBounds_toArray, List.set_cons_zero, List.set_cons_succ]
            refine take_on (i := 9) (v := ?v9) rfl (by kernel_rfl) (by kernel_rfl) (by kernel_rfl) (fun _ _ _ h => h) (by rfl) ?hy9 (by assumption) ?_
            case hy9 => intro w hSw; (try dsimp only at hSw); go_simp <;> with_reducible rfl
            try simp only [Act.put, List.setIfInBounds_toArray, List.set_cons_zero, List.set_cons_succ]
            refine take_on (i := 10) (v := ?v10) rfl (by kernel_rfl) (by kernel_rfl) (by kernel_rfl) (fun _ _ _ h => h) (by rfl) ?hy10 (by assumption) ?_
            case hy10 => intro w hSw; (try dsimp only at hSw); go_simp <;> with_reducible rfl
            try simp only [Act.put, List.setIfInBounds_toArray, List.set_cons_zero, List.set_cons_succ]
            refine take_on (i := 11) (v := ?v11) rfl (by kernel_rfl) (by kernel_rfl) (by kernel_rfl) (fun _ _ _ h => h) (by rfl) ?hy11 (by assumption) ?_
            case hy11 => intro w hSw; (try dsimp only at hSw); go_simp <;> with_reducible rfl
            try simp only [Act.put, List.setIfInBounds_toArray, List.set_cons_zero, List.set_cons_succ]
            refine take_on (i := 12) (v := ?v12) rfl (by kernel_rfl) (by kernel_rfl) (by kernel_rfl) (fun _ _ _ h => h) (by rfl) ?hy12 (by assumption) ?_
            case hy12 => intro w hSw; (try dsimp only at hSw); go_simp <;> with_reducible rfl
            try simp only [Act.put, List.setIfInBounds_toArray, List.set_cons_zero, List.set_cons_succ]
            refine take_on (i := 13) (v := ?v13) rfl (by kernel_rfl) (by kernel_rfl) (by kernel_rfl) (fun _ _ _ h => h) (by rfl) ?hy13 (by assumption) ?_
            case hy13 => intro w hSw; (try dsimp only at hSw); go_simp <;> with_reducible rfl
            try simp only [Act.put, List.setIfInBounds_toArray, List.set_cons_zero, List.set_cons_succ]
            refine take_on (i := 14) (v := ?v14) rfl (by kernel_rfl) (by kernel_rfl) (by kernel_rfl) (fun _ _ _ h => h) (by rfl) ?hy14 (by assumption) ?_
            case hy14 => intro w hSw; (try dsimp only at hSw); go_simp <;> with_reducible rfl
            try simp only [Act.put, List.setIfInBounds_toArray, List.set_cons_zero, List.set_cons_succ]
            refine take_on (i := 15) (v := ?v15) rfl (by kernel_rfl) (by kernel_rfl) (by kernel_rfl) (fun _ _ _ h => h) (by rfl) ?hy15 (by assumption) ?_
            case hy15 => intro w hSw; (try dsimp only at hSw); go_simp <;> with_reducible rfl
            try simp only [Act.put, List.setIfInBounds_toArray, List.set_cons_zero, List.set_cons_succ]
            refine take_on (i := 16) (v := ?v16) rfl (by kernel_rfl) (by kernel_rfl) (by kernel_rfl) (fun _ _ _ h => h) (by rfl) ?hy16 (by assumption) ?_
            case hy16 => intro w hSw; (try dsimp only at hSw); go_simp <;> with_reducible rfl
            try simp only [Act.put, List.setIfInBounds_toArray, List.set_cons_zero, List.set_cons_succ]
            refine take_on (i := 17) (v := ?v17) rfl (by kernel_rfl) (by kernel_rfl) (by kernel_rfl) (fun _ _ _ h => h) (by rfl) ?hy17 (by assumption) ?_
            case hy17 => intro w hSw; (try dsimp only at hSw); go_simp <;> with_reducible rfl
            try simp only [Act.put, List.setIfInBounds_toArray, List.set_cons_zero, List.set_cons_succ]
            refine take_on (i := 18) (v := ?v18) rfl (by kernel_rfl) (by kernel_rfl) (by kernel_rfl) (fun _ _ _ h => h) (by rfl) ?hy18 (by assumption) ?_
            case hy18 => intro w hSw; (try dsimp only at hSw); go_simp <;> with_reducible rfl
            try simp only [Act.put, List.setIfInBounds_toArray, List.set_cons_zero, List.set_cons_succ]
            refine take_on (i := 19) (v := ?v19) rfl (by kernel_rfl) (by kernel_rfl) (by kernel_rfl) (fun _ _ _ h => h) (by rfl) ?hy19 (by assumption) ?_
            case hy19 => intro w hSw; (try dsimp only at hSw); go_simp <;> with_reducible rfl
            try simp only [Act.put, List.setIfInBounds_toArray, List.set_cons_zero, List.set_cons_succ]
            refine take_call (i := 20) (by kernel_rfl) rfl (fun K hK => ?_)
            go_simp
            (go_at_call 22; refine (HCI.out _).mono ?_; rintro e w' ⟨rfl, hba⟩)
            go_wp2_with fail
            refine hK.out _ _ ?_ (fun hHeld2 => ?_)
            · exact HKS.out _ _ (by assumption) (by assumption)
            clear hK K hHeld
            have hHeld := hHeld2
            clear hHeld2
            try simp only [Act.put, List.setIfInBounds_toArray, List.set_cons_zero, List.set_cons_succ]
            refine take_on (i := 21) (v := ?v21) rfl (by kernel_rfl) (by kernel_rfl) (by kernel_rfl) (fun _ _ _ h => h) (by rfl) ?hy21 (by assumption) ?_
            case hy21 => intro w hSw; (try dsimp only at hSw); go_simp <;> with_reducible rfl
            try simp only [Act.put, List.setIfInBounds_toArray, List.set_cons_zero, List.set_cons_succ]
            refine take_on (i := 22) (v := ?v22) rfl (by kernel_rfl) (by kernel_rfl) (by kernel_rfl) (fun _ _ _ h => h) (by rfl) ?hy22 (by assumption) ?_
            case hy22 => intro w hSw; (try dsimp only at hSw); go_simp <;> with_reducible rfl
            try simp only [Act.put, List.setIfInBounds_toArray, List.set_cons_zero, List.set_cons_succ]
            refine take_off (i := 23) rfl (by kernel_rfl) (by kernel_rfl) (by kernel_rfl) (fun _ _ _ h => h) (by rfl) (by assumption) ?_
            try simp only [Act.put, List.setIfInBounds_toArray, List.set_cons_zero, List.set_cons_succ]
            refine take_off (i := 24) rfl (by kernel_rfl) (by kernel_rfl) (by kernel_rfl) (fun _ _ _ h => h) (by rfl) (by assumption) ?_
            try simp only [Act.put, List.setIfInBounds_toArray, List.set_cons_zero, List.set_cons_succ]
            refine take_off (i := 25) rfl (by kernel_rfl) (by kernel_rfl) (by kernel_rfl) (fun _ _ _ h => h) (by rfl) (by assumption) ?_
            try simp only [Act.put, List.setIfInBounds_toArray, List.set_cons_zero, List.set_cons_succ]
            refine take_off (i := 26) rfl (by kernel_rfl) (by kernel_rfl) (by kernel_rfl) (fun _ _ _ h => h) (by rfl) (by assumption) ?_
            try simp only [Act.put, List.setIfInBounds_toArray, List.set_cons_zero, List.set_cons_succ]
            refine take_off (i := 27) rfl (by kernel_rfl) (by kernel_rfl) (by kernel_rfl) (fun _ _ _ h => h) (by rfl) (by assumption) ?_
            try simp only [Act.put, List.setIfInBounds_toArray, List.set_cons_zero, List.set_cons_succ]
            refine take_off (i := 28) rfl (by kernel_rfl) (by kernel_rfl) (by kernel_rfl) (fun _ _ _ h => h) (by rfl) (by assumption) ?_
            try simp only [Act.put, List.setIfInBounds_toArray, List.set_cons_zero, List.set_cons_succ]
            refine take_off (i := 29) rfl (by kernel_rfl) (by kernel_rfl) (by kernel_rfl) (fun _ _ _ h => h) (by rfl) (by assumption) ?_
            try simp only [Act.put, List.setIfInBounds_toArray, List.set_cons_zero, List.set_cons_succ]
            refine take_off (i := 30) rfl (by kernel_rfl) (by kernel_rfl) (by kernel_rfl) (fun _ _ _ h => h) (by rfl) (by assumption) ?_
            try simp only [Act.put, List.setIfInBounds_toArray, List.set_cons_zero, List.set_cons_succ]
            refine take_off (i := 31) rfl (by kernel_rfl) (by kernel_rfl) (by kernel_rfl) (fun _ _ _ h => h) (by rfl) (by assumption) ?_
            try simp only [Act.put, List.setIfInBounds_toArray, List.set_cons_zero, List.set_cons_succ]
            refine take_off (i := 32) rfl (by kernel_rfl) (by kernel_rfl) (by kernel_rfl) (fun _ _ _ h => h) (by rfl) (by assumption) ?_
            try simp only [Act.put, List.setIfInBounds_toArray, List.set_cons_zero, List.set_cons_succ]
            refine take_on (i := 33) (v := ?v33) rfl (by kernel_rfl) (by kernel_rfl) (by kernel_rfl) (fun _ _ _ h => h) (by rfl) ?hy33 (by assumption) ?_
            case hy33 => intro w hSw; (try dsimp only at hSw); go_simp <;> with_reducible rfl
            try simp only [Act.put, List.setIfInBounds_toArray, List.set_cons_zero, List.set_cons_succ]
            refine take_on (i := 34) (v := ?v34) rfl (by kernel_rfl) (by kernel_rfl) (by kernel_rfl) (fun _ _ _ h => h) (by rfl) ?hy34 (by assumption) ?_
            case hy34 => intro w hSw; (try dsimp only at hSw); go_simp <;> with_reducible rfl
            try simp only [Act.put, List.setIfInBounds_toArray, List.set_cons_zero, List.set_cons_succ]
            refine wpAnyH_done (by kernel_rfl) ?_ _
            obtain ⟨d1, d2, c1, c2, h5⟩ := ‹_ ∧ _ ∧ _ ∧ _ ∧ Below wr.heap.size wr _›
            go_wp2_with fail
            go_region_held3 (fun w' => w'.cell? ⟨b, off + i * 2, none⟩ = some (.int .i64 y.1) ∧ w'.cell? ⟨b, off + i * 2 + 1, none⟩ = some (.int .i64 y.2) ∧ w'.cell? ⟨b, off + k * 2, none⟩ = some (.int .i64 x.1) ∧ w'.cell? ⟨b, off + k * 2 + 1, none⟩ = some (.int .i64 x.2) ∧ Below wr.heap.size wr w')
              (first | exact HKS.out _ _ (by assumption) (by assumption) | exact ⟨d1, d2, c1, c2, h5.drew⟩ | go_keep)
              (first | (go_at_call 22; refine (HCI.out _).mono ?_; rintro e w' ⟨rfl, hba⟩) | (go_at_call 23; refine (HCA.out _).mono ?_; rintro e w' ⟨rfl, hba⟩))
            obtain ⟨_, _, _, _, h6⟩ := ‹_ ∧ _ ∧ _ ∧ _ ∧ Below wr.heap.size wr _›
            go_wp2_with fail
            go_roundw
            case rel =>
              refine ⟨i + 1, by omega, by go_num, ?_, fun l hl => ?_, hou3.below h6, hb3.trans (h6.mono hb3.size)⟩
              · rw [cntTo_succ, ← HX.out, ← HY.out, HQI.out]; simp; exact IntWalk.wrap64_in _ (by have := cntTo_le s k i; omega)
              · by_cases hji : l < i
                · exact HPK.out l hji
                · obtain rfl : l = i := by omega
                  rw [HP.out, decide_eq_true (by omega)]; rfl
            case measure => simp [intOf]; omega
        · obtain rfl : i = k := by omega
          go_wp2_with (at_builtin; refine wpList_append_ownS _ rfl _ _ 32 rfl w.heap.size 3 j0 (.int .i64 0) 1 8 Try.underlying32 hj hj0 hj1 hj2 rfl (by decide) _ _ _ rfl (hou3.alloc _) ⟨wr.heap.size, 0, none⟩ 1 1 [.int .i64 (cntTo s i i : Nat)] rfl rfl ?c1 ?c2 ?c3 ?c4 ?c5 ?_)
          case c1 => exact cell_one_new _ _ _
          case c2 => intro u hu; simp at hu; subst hu; rfl
          case c3 => unfold maxLen; omega
          case c4 => omega
          case c5 => have := hb3.size; simp; omega
          intro v1 wa hown1 hgrow1
          have hba : Below w.heap.size w wa := below_grown (hb3.alloc hb3.size _) (hou3.alloc _) hgrow1 (by have := hb3.size; simp; omega) (Nat.le_refl _)
          clear hou3 hgrow1
          go_wp2_with fail
          go_roundw
          case rel =>
            refine ⟨i + 1, by omega, by go_num, ?_, fun j hj => ?_, hba⟩
            · rw [List.range_succ, List.map_append, List.map_append, List.map_map]
              exact hown1
            · by_cases hji : j < i
              · exact HOK.out j hji
              · obtain rfl : j = i := by omega
                exact refOk_yes s j HH.out HPK.out
          case measure => simp [intOf]; omega
    · obtain rfl : k = len := by omega
      go_wp2_with fail
      go_ret2
      rw [refLevels_yes s (by rw [← HL.out]; exact HOK.out)]
      refine ⟨_, rfl, ?_, hb⟩
      rw [← HL.out, List.length_map, List.length_range]
      exact hou
end Go.Proofs.Ytahdlbckcddeeaa
