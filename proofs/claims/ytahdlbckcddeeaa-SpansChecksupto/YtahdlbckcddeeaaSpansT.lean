/- WALK OF LAYER 14 (spans): the document's Check. -/
import Derived.Test.YtahdlbckcddeeaaSpansK
import Derived.Test.YtahdlbckcddeeaaParseF
import Derived.Test.YtahdlbckcddeeaaSpansH
import Derived.Test.YtahdlbckcddeeaaSpansPlain6
import Derived.Deep.CutRange
namespace Go.Proofs.Ytahdlbckcddeeaa
open Go.RowKit
set_option linter.unusedVariables false
set_option maxRecDepth 100000 in
set_option maxHeartbeats 8000000 in
theorem rscheck_any (a : Option Addr) (len cap : Nat) (L : List Item) (a2 : Option Addr) (len2 cap2 : Nat) (s : List (Int × Int)) (hlen2 : len2 ≤ 1048576) (w : World) (hi : ItemsSl w a len L) (ht : TinyL L) (hs : SpansSl w a2 len2 s) :
    Calls Try.prog 13 #[.slice a len cap, .slice a2 len2 cap2] w fun e w' => e = .returned (.bool (rcheckSB L s)) ∧ Below w.heap.size w w' := by
  have HCK := Lib.hid (rcheck_any a len cap L w hi ht)
  obtain ⟨c2, hc2⟩ : ∃ c, (checkP L).2 = c := ⟨_, rfl⟩
  rw [hc2] at HCK
  generalize (checkP L).1 = c1 at HCK
  by_cases he : c2 = 0
  case neg =>
    rw [rcheckSB_err (by rw [hc2]; exact he)]
    clear hi hs hc2
    go_enter Try.func13, Try.ntmps13
    go_wp2_with fail
    refine HCK.out.mono ?_
    rintro e w1 ⟨rfl, hb1⟩
    go_wp2_with fail
    go_ret
    exact ⟨rfl, hb1⟩
  subst he
  by_cases hll : len2 = len
  case neg =>
    rw [rcheckSB_len (by rw [← hs.1, ← hi.1]; exact hll)]
    clear hi hs hc2
    have hll' : ¬ (len2 : Int) = (len : Int) := by omega
    go_enter Try.func13, Try.ntmps13
    go_wp2_with fail
    refine HCK.out.mono ?_
    rintro e w1 ⟨rfl, hb1⟩
    go_wp2_with fail
    go_ret
    exact ⟨rfl, hb1⟩
  subst hll
  have h0 : 0 < len2 := by
    have := (check_ok hc2).1
    rw [hi.1]
    exact List.length_pos_iff.2 this
  have HZ : Hid ((checkP L).2 = 0 ∧ s.length = L.length) := Lib.hid ⟨hc2, by rw [← hs.1, ← hi.1]⟩
  have HLL := Lib.hid hi.1
  obtain ⟨b, off, rfl, hit⟩ := hi.2.2 h0
  obtain ⟨b2, off2, rfl, hsp⟩ := hs.2 h0
  have HI := Lib.hid hit
  have HS := Lib.hid hsp
  have HSL := Lib.hid hs.1
  have hl47 := hi.2.1
  clear hi hs hc2 hit hsp ht
  generalize hr : rcheckSB L s = r
  have HRR := Lib.hid hr
  clear hr
  go_enter Try.func13, Try.ntmps13
  go_wp2_with fail
  refine HCK.out.mono ?_
  rintro e w1 ⟨rfl, hbw⟩
  have HI1 := Lib.hid (HI.out.below hbw)
  have HS1 := Lib.hid (HS.out.below hbw)
  clear HI HS HCK
  go_wp2_with fail
  go_loopw [7] (fun i wr => ∃ k : Nat, k ≤ len2 ∧ i = .int .i64 k ∧ Hid (∀ j, j < k → rRow L s j = true) ∧ Below w1.heap.size w1 wr) (fun i _ => len2 - (intOf i).toNat)
  case atStart => exact ⟨0, by omega, rfl, Lib.hid (by omega), Below.refl _ _⟩
  case round =>
    obtain ⟨k, hk, rfl, HOK, hb⟩ := hrel
    by_cases hlt : k < len2
    · obtain ⟨x, hx⟩ : ∃ x, x = s.getD k default := ⟨_, rfl⟩
      have hc := (HS1.out.below hb) k (by rw [← HSL.out]; exact hlt)
      rw [← hx] at hc
      obtain ⟨c1', c2'⟩ := hc
      have HX := Lib.hid hx
      clear hx
      obtain ⟨q1, hq1⟩ : ∃ q, insideB x.1 = q := ⟨_, rfl⟩
      obtain ⟨q2, hq2⟩ : ∃ q, insideB x.2 = q := ⟨_, rfl⟩
      have HC1 : Hid (∀ w, Calls Try.prog 27 #[.int .i64 x.1] w fun e w' => e = .returned (.bool q1) ∧ w' = w) := fun w => (rinside_any x.1 w).mono fun e w' ⟨he, hw⟩ => ⟨by rw [he, hq1], hw.symm⟩
      have HC2 : Hid (∀ w, Calls Try.prog 27 #[.int .i64 x.2] w fun e w' => e = .returned (.bool q2) ∧ w' = w) := fun w => (rinside_any x.2 w).mono fun e w' ⟨he, hw⟩ => ⟨by rw [he, hq2], hw.symm⟩
      obtain ⟨qx, hqx⟩ : ∃ q, decide (x.1 < x.2) = q := ⟨_, rfl⟩
      have HH : Hid (headOk s k = (q1 && q2 && qx)) := by
        unfold headOk
        rw [← HX.out, hq1, hq2, hqx]
        rfl
      have z1 : (0 : Int) ≤ (k : Int) := by omega
      have z2 : (k : Int) < (len2 : Int) := by omega
      clear hq1 hq2
      cases q1
      case false =>
        clear hqx
        go_wp2_with fail
        go_quiet (first | (go_at_call 27; exact Calls.quiet_of_same (HC1.out _)) | (go_at_call 27; exact Calls.quiet_of_same (HC2.out _)))
        go_wp2_with fail
        go_ret
        exact ⟨ret_bool (by rw [← HRR.out, rcheckSB_no HZ.out k (by rw [← HLL.out]; exact hlt) (rRow_head L s k HH.out)]), hbw.trans ((below_drewN hb _).mono hbw.size)⟩
      cases q2
      case false =>
        clear hqx
        go_wp2_with fail
        go_quiet (first | (go_at_call 27; exact Calls.quiet_of_same (HC1.out _)) | (go_at_call 27; exact Calls.quiet_of_same (HC2.out _)))
        go_wp2_with fail
        go_ret
        exact ⟨ret_bool (by rw [← HRR.out, rcheckSB_no HZ.out k (by rw [← HLL.out]; exact hlt) (rRow_head L s k HH.out)]), hbw.trans ((below_drewN hb _).mono hbw.size)⟩
      cases qx
      case false =>
        have hxx : x.2 ≤ x.1 := by simpa using hqx
        clear hqx
        go_wp2_with fail
        go_quiet (first | (go_at_call 27; exact Calls.quiet_of_same (HC1.out _)) | (go_at_call 27; exact Calls.quiet_of_same (HC2.out _)))
        go_wp2_with fail
        go_ret
        exact ⟨ret_bool (by rw [← HRR.out, rcheckSB_no HZ.out k (by rw [← HLL.out]; exact hlt) (rRow_head L s k HH.out)]), hbw.trans ((below_drewN hb _).mono hbw.size)⟩
      have hxx : ¬ x.2 ≤ x.1 := by have : x.1 < x.2 := by simpa using hqx
                                   omega
      clear hqx
      obtain ⟨wo, hwo⟩ : ∃ wo : World, wo = wr := ⟨_, rfl⟩
      have hbo : Below w1.heap.size w1 wo := by rw [hwo]; exact hb
      have key : (k = 0 ∨ (s.getD (k - 1) default).1 < (s.getD k default).1) ∨ ¬ (k = 0 ∨ (s.getD (k - 1) default).1 < (s.getD k default).1) := Classical.em _
      by_cases hprev : k = 0 ∨ (s.getD (k - 1) default).1 < (s.getD k default).1
      case neg =>
        clear key hwo hbo
        have HPV := Lib.hid hprev
        obtain ⟨j, hj⟩ : ∃ j, k = j + 1 := ⟨k - 1, by omega⟩
        obtain ⟨y, hy⟩ : ∃ y, y = s.getD j default := ⟨_, rfl⟩
        have hcy := ((HS1.out.below hb) j (by rw [← HSL.out]; omega)).1
        rw [← hy] at hcy
        have HJ := Lib.hid hj
        have HY := Lib.hid hy
        have z3 : IntKind.i64.wrap ((k : Int) - 1) = (j : Int) := by rw [IntKind.wrap_i64]; omega
        have z4 : (0 : Int) ≤ (j : Int) := by omega
        have z5 : (j : Int) < (len2 : Int) := by omega
        have z6 : (0 : Int) < (k : Int) := by omega
        have z7 : 0 < k := by omega
        clear hj hy
        have hle : x.1 ≤ y.1 := by
          have h1 := HPV.out
          rw [HJ.out, Nat.add_sub_cancel, ← HJ.out, ← HX.out, ← HY.out] at h1
          omega
        clear hprev
        go_wp2_with fail
        go_quiet (first | (go_at_call 27; exact Calls.quiet_of_same (HC1.out _)) | (go_at_call 27; exact Calls.quiet_of_same (HC2.out _)))
        go_wp2_with fail
        go_ret
        exact ⟨ret_bool (by rw [← HRR.out, rcheckSB_no HZ.out k (by rw [← HLL.out]; exact hlt) (rRow_prev L s k HPV.out)]), hbw.trans ((below_drewN hb _).mono hbw.size)⟩
      have HPV := Lib.hid hprev
      clear key
      go_wp2_with fail
      go_cut [76] from 30 to 76 (fun c wx => c = .bool false ∧ Below w1.heap.size w1 wx)
      case first =>
        by_cases hk0 : k = 0
        · have hkb : ¬ 0 < k := by omega
          have hkc : decide ((0 : Int) < (k : Int)) = false := decide_eq_false (by omega)
          have hxb : decide (x.2 ≤ x.1) = false := decide_eq_false (by omega)
          clear hprev hk0
          go_quiet (first | (go_at_call 27; exact Calls.quiet_of_same (HC1.out _)) | (go_at_call 27; exact Calls.quiet_of_same (HC2.out _)))
          go_wp2_with fail
          go_meet
          exact ⟨by first | rfl | exact congrArg Value.bool (decide_eq_false (by omega)), below_drewN hb _⟩
        · have hlt2 : (s.getD (k - 1) default).1 < (s.getD k default).1 := by omega
          clear hprev
          obtain ⟨j, hj⟩ : ∃ j, k = j + 1 := ⟨k - 1, by omega⟩
          obtain ⟨y, hy⟩ : ∃ y, y = s.getD j default := ⟨_, rfl⟩
          have hcy := ((HS1.out.below hb) j (by rw [← HSL.out]; omega)).1
          rw [← hy] at hcy
          have HJ := Lib.hid hj
          have HY := Lib.hid hy
          have z3 : IntKind.i64.wrap ((k : Int) - 1) = (j : Int) := by rw [IntKind.wrap_i64]; omega
          have z4 : (0 : Int) ≤ (j : Int) := by omega
          have z5 : (j : Int) < (len2 : Int) := by omega
          have z6 : (0 : Int) < (k : Int) := by omega
          have z7 : 0 < k := by omega
          clear hj hy
          have hle : ¬ x.1 ≤ y.1 := by
            have h1 := hlt2
            rw [HJ.out, Nat.add_sub_cancel, ← HJ.out, ← HX.out, ← HY.out] at h1
            omega
          have hxb : decide (x.2 ≤ x.1) = false := decide_eq_false (by omega)
          clear hlt2 hk0
          go_quiet (first | (go_at_call 27; exact Calls.quiet_of_same (HC1.out _)) | (go_at_call 27; exact Calls.quiet_of_same (HC2.out _)))
          go_wp2_with fail
          go_meet
          exact ⟨by first | rfl | exact congrArg Value.bool (decide_eq_false (by omega)), below_drewN hb _⟩
      case rest =>
        obtain ⟨rfl, hbc⟩ := hcut
        clear HC1 HC2 c1' c2' hbo hb hwo hprev hxx
        obtain ⟨wq, hwq⟩ : ∃ wq : World, wq = wc := ⟨_, rfl⟩
        rw [← hwq]
        have hbq : Below w1.heap.size w1 wq := by rw [hwq]; exact hbc
        clear hbc hwq
        go_wp2_with fail
        go_loopw [8, 9] (fun i u wr => ∃ n : Nat, n ≤ k ∧ i = .int .i64 n ∧ Hid (∀ l, l < n → rPair L s k l = true) ∧ Below w1.heap.size w1 wr) (fun i _ _ => k - (intOf i).toNat)
        case atStart => exact ⟨0, by omega, rfl, Lib.hid (by omega), hbq⟩
        case round =>
          clear hbq
          obtain ⟨i, hi, rfl, HPK, hb3⟩ := hrel
          by_cases hik : i < k
          · have HE := Lib.hid (rend_any b off len2 cap L i HLL.out hl47 wr (HI1.out.below hb3) (by omega))
            obtain ⟨E, hE⟩ : ∃ E, endP L i = E := ⟨_, rfl⟩
            rw [hE] at HE
            have HEE := Lib.hid hE
            clear hE
            have zz : (0 : Int) ≤ (i : Int) := by omega
            go_wp2_with fail
            refine HE.out.mono ?_
            rintro e w2 ⟨rfl, mm, hw2⟩
            have hbE : Below wr.heap.size wr w2 := by rw [hw2]; exact below_drewN (Below.refl _ _) _
            clear hw2 HE
            have hb4 := hb3.trans (hbE.mono hb3.size)
            obtain ⟨y, hy⟩ : ∃ y, y = s.getD i default := ⟨_, rfl⟩
            obtain ⟨d1, d2⟩ := (HS1.out.below hb4) i (by rw [← HSL.out]; omega)
            rw [← hy] at d1 d2
            obtain ⟨c1, c2⟩ := (HS1.out.below hb4) k (by rw [← HSL.out]; exact hlt)
            rw [← HX.out] at c1 c2
            have HY := Lib.hid hy
            clear hy
            obtain ⟨qi, hqi⟩ : ∃ q, inB x y = q := ⟨_, rfl⟩
            obtain ⟨qa, hqa⟩ : ∃ q, aheadB y x = q := ⟨_, rfl⟩
            have HCI : Hid (∀ w, Calls Try.prog 22 #[.agg #[.int .i64 x.1, .int .i64 x.2], .agg #[.int .i64 y.1, .int .i64 y.2]] w fun e w' => e = .returned (.bool qi) ∧ Below w.heap.size w w') := fun w => (rspn_in x y w).mono fun e w' ⟨he, hw⟩ => ⟨by rw [he, hqi], hw⟩
            have HCA : Hid (∀ w, Calls Try.prog 23 #[.agg #[.int .i64 y.1, .int .i64 y.2], .agg #[.int .i64 x.1, .int .i64 x.2]] w fun e w' => e = .returned (.bool qa) ∧ Below w.heap.size w w') := fun w => (rspn_ahead y x w).mono fun e w' ⟨he, hw⟩ => ⟨by rw [he, hqa], hw⟩
            have HP0 : Hid (rPair L s k i = ((decide (k < E) == qi) && (qi || qa))) := by
              unfold rPair
              rw [← HX.out, ← HY.out, hqi, hqa, HEE.out]
              exact Lib.hid rfl
            clear hqi hqa
            have z1' : (i : Int) < (len2 : Int) := by omega
            obtain ⟨wi, hwi⟩ : ∃ wi : World, wi = w2 := ⟨_, rfl⟩
            have HKS : Hid (∀ wa wb : World, Below wa.heap.size wa wb → (wa.cell? ⟨b2, off2 + i * 2, none⟩ = some (.int .i64 y.1) ∧ wa.cell? ⟨b2, off2 + i * 2 + 1, none⟩ = some (.int .i64 y.2) ∧ wa.cell? ⟨b2, off2 + k * 2, none⟩ = some (.int .i64 x.1) ∧ wa.cell? ⟨b2, off2 + k * 2 + 1, none⟩ = some (.int .i64 x.2) ∧ Below w2.heap.size w2 wa) → (wb.cell? ⟨b2, off2 + i * 2, none⟩ = some (.int .i64 y.1) ∧ wb.cell? ⟨b2, off2 + i * 2 + 1, none⟩ = some (.int .i64 y.2) ∧ wb.cell? ⟨b2, off2 + k * 2, none⟩ = some (.int .i64 x.1) ∧ wb.cell? ⟨b2, off2 + k * 2 + 1, none⟩ = some (.int .i64 x.2) ∧ Below w2.heap.size w2 wb)) := Lib.hid fun wa wb h hs => by
              obtain ⟨s1, s2, s3, s4, s5⟩ := hs
              exact ⟨(h.cell (block_lt_of_cell s1)).trans s1, (h.cell (block_lt_of_cell s2)).trans s2, (h.cell (block_lt_of_cell s3)).trans s3, (h.cell (block_lt_of_cell s4)).trans s4, s5.trans (h.mono s5.size)⟩
            have H0 : Hid (w2.drew.cell? ⟨b2, off2 + i * 2, none⟩ = some (.int .i64 y.1) ∧ w2.drew.cell? ⟨b2, off2 + i * 2 + 1, none⟩ = some (.int .i64 y.2) ∧ w2.drew.cell? ⟨b2, off2 + k * 2, none⟩ = some (.int .i64 x.1) ∧ w2.drew.cell? ⟨b2, off2 + k * 2 + 1, none⟩ = some (.int .i64 x.2) ∧ Below w2.heap.size w2 w2.drew) := Lib.hid ⟨d1, d2, c1, c2, (Below.refl _ _).drew⟩
            clear d1 d2 c1 c2 hwi
            by_cases hE : k < E
            · have HP : Hid (rPair L s k i = ((true == qi) && (qi || qa))) := by rw [HP0.out, decide_eq_true hE]; exact Lib.hid rfl
              clear HP0
              cases qi
              · go_wp2_with fail
                refine wp_region_held_drew (S := (fun wa => wa.cell? ⟨b2, off2 + i * 2, none⟩ = some (.int .i64 y.1) ∧ wa.cell? ⟨b2, off2 + i * 2 + 1, none⟩ = some (.int .i64 y.2) ∧ wa.cell? ⟨b2, off2 + k * 2, none⟩ = some (.int .i64 x.1) ∧ wa.cell? ⟨b2, off2 + k * 2 + 1, none⟩ = some (.int .i64 x.2) ∧ Below w2.heap.size w2 wa)) (by kernel_rfl) H0.out (fun hHeld => ?_)
                refine take_on (i := 0) (v := ?v0a) rfl (by kernel_rfl) (by kernel_rfl) (by kernel_rfl) (fun _ _ _ h => h) (by rfl) ?hy0a (by assumption) ?_
                case hy0a => intro w hSw; (try dsimp only at hSw); go_simp <;> with_reducible rfl
                try simp only [Act.put, List.setIfInBounds_toArray, List.set_cons_zero, List.set_cons_succ]
                refine take_on (i := 1) (v := ?v1a) rfl (by kernel_rfl) (by kernel_rfl) (by kernel_rfl) (fun _ _ _ h => h) (by rfl) ?hy1a (by assumption) ?_
                case hy1a => intro w hSw; (try dsimp only at hSw); go_simp <;> with_reducible rfl
                try simp only [Act.put, List.setIfInBounds_toArray, List.set_cons_zero, List.set_cons_succ]
                refine take_on (i := 2) (v := ?v2a) rfl (by kernel_rfl) (by kernel_rfl) (by kernel_rfl) (fun _ _ _ h => h) (by rfl) ?hy2a (by assumption) ?_
                case hy2a => intro w hSw; (try dsimp only at hSw); go_simp <;> with_reducible rfl
                try simp only [Act.put, List.setIfInBounds_toArray, List.set_cons_zero, List.set_cons_succ]
                refine take_on (i := 3) (v := ?v3a) rfl (by kernel_rfl) (by kernel_rfl) (by kernel_rfl) (fun _ _ _ h => h) (by rfl) ?hy3a (by assumption) ?_
                case hy3a => intro w hSw; (try dsimp only at hSw); go_simp <;> with_reducible rfl
                try simp only [Act.put, List.setIfInBounds_toArray, List.set_cons_zero, List.set_cons_succ]
                refine take_on (i := 4) (v := ?v4a) rfl (by kernel_rfl) (by kernel_rfl) (by kernel_rfl) (fun _ _ _ h => h) (by rfl) ?hy4a (by assumption) ?_
                case hy4a => intro w hSw; (try dsimp only at hSw); go_simp <;> with_reducible rfl
                try simp only [Act.put, List.setIfInBounds_toArray, List.set_cons_zero, List.set_cons_succ]
                refine take_on (i := 5) (v := ?v5a) rfl (by kernel_rfl) (by kernel_rfl) (by kernel_rfl) (fun _ _ _ h => h) (by rfl) ?hy5a (by assumption) ?_
                case hy5a => intro w hSw; (try dsimp only at hSw); go_simp <;> with_reducible rfl
                try simp only [Act.put, List.setIfInBounds_toArray, List.set_cons_zero, List.set_cons_succ]
                refine take_on (i := 6) (v := ?v6a) rfl (by kernel_rfl) (by kernel_rfl) (by kernel_rfl) (fun _ _ _ h => h) (by rfl) ?hy6a (by assumption) ?_
                case hy6a => intro w hSw; (try dsimp only at hSw); go_simp <;> with_reducible rfl
                try simp only [Act.put, List.setIfInBounds_toArray, List.set_cons_zero, List.set_cons_succ]
                refine take_on (i := 7) (v := ?v7a) rfl (by kernel_rfl) (by kernel_rfl) (by kernel_rfl) (fun _ _ _ h => h) (by rfl) ?hy7a (by assumption) ?_
                case hy7a => intro w hSw; (try dsimp only at hSw); go_simp <;> with_reducible rfl
                try simp only [Act.put, List.setIfInBounds_toArray, List.set_cons_zero, List.set_cons_succ]
                refine take_on (i := 8) (v := ?v8a) rfl (by kernel_rfl) (by kernel_rfl) (by kernel_rfl) (fun _ _ _ h => h) (by rfl) ?hy8a (by assumption) ?_
                case hy8a => intro w hSw; (try dsimp only at hSw); go_simp <;> with_reducible rfl
                try simp only [Act.put, List.setIfInBounds_toArray, List.set_cons_zero, List.set_cons_succ]
                refine take_call (i := 9) (by kernel_rfl) rfl (fun K hK => ?_)
                go_simp
                (go_at_call 22; refine (HCI.out _).mono ?_; rintro e w' ⟨rfl, hba⟩)
                go_wp2_with fail
                refine hK.out _ _ ?_ (fun hHeld2 => ?_)
                · exact HKS.out _ _ (by assumption) (by assumption)
                clear hK K hHeld
                have hHeld := hHeld2
                clear hHeld2
                try simp only [Act.put, List.setIfInBounds_toArray, List.set_cons_zero, List.set_cons_succ]
                refine take_on (i := 10) (v := ?v10a) rfl (by kernel_rfl) (by kernel_rfl) (by kernel_rfl) (fun _ _ _ h => h) (by rfl) ?hy10a (by assumption) ?_
                case hy10a => intro w hSw; (try dsimp only at hSw); go_simp <;> with_reducible rfl
                try simp only [Act.put, List.setIfInBounds_toArray, List.set_cons_zero, List.set_cons_succ]
                refine take_on (i := 11) (v := ?v11a) rfl (by kernel_rfl) (by kernel_rfl) (by kernel_rfl) (fun _ _ _ h => h) (by rfl) ?hy11a (by assumption) ?_
                case hy11a => intro w hSw; (try dsimp only at hSw); go_simp <;> with_reducible rfl
                try simp only [Act.put, List.setIfInBounds_toArray, List.set_cons_zero, List.set_cons_succ]
                refine take_off (i := 12) rfl (by kernel_rfl) (by kernel_rfl) (by kernel_rfl) (fun _ _ _ h => h) (by rfl) (by assumption) ?_
                try simp only [Act.put, List.setIfInBounds_toArray, List.set_cons_zero, List.set_cons_succ]
                refine take_off (i := 13) rfl (by kernel_rfl) (by kernel_rfl) (by kernel_rfl) (fun _ _ _ h => h) (by rfl) (by assumption) ?_
                try simp only [Act.put, List.setIfInBounds_toArray, List.set_cons_zero, List.set_cons_succ]
                refine take_off (i := 14) rfl (by kernel_rfl) (by kernel_rfl) (by kernel_rfl) (fun _ _ _ h => h) (by rfl) (by assumption) ?_
                try simp only [Act.put, List.setIfInBounds_toArray, List.set_cons_zero, List.set_cons_succ]
                refine take_off (i := 15) rfl (by kernel_rfl) (by kernel_rfl) (by kernel_rfl) (fun _ _ _ h => h) (by rfl) (by assumption) ?_
                try simp only [Act.put, List.setIfInBounds_toArray, List.set_cons_zero, List.set_cons_succ]
                refine take_off (i := 16) rfl (by kernel_rfl) (by kernel_rfl) (by kernel_rfl) (fun _ _ _ h => h) (by rfl) (by assumption) ?_
                try simp only [Act.put, List.setIfInBounds_toArray, List.set_cons_zero, List.set_cons_succ]
                refine take_off (i := 17) rfl (by kernel_rfl) (by kernel_rfl) (by kernel_rfl) (fun _ _ _ h => h) (by rfl) (by assumption) ?_
                try simp only [Act.put, List.setIfInBounds_toArray, List.set_cons_zero, List.set_cons_succ]
                refine take_off (i := 18) rfl (by kernel_rfl) (by kernel_rfl) (by kernel_rfl) (fun _ _ _ h => h) (by rfl) (by assumption) ?_
                try simp only [Act.put, List.setIfInBounds_toArray, List.set_cons_zero, List.set_cons_succ]
                refine take_off (i := 19) rfl (by kernel_rfl) (by kernel_rfl) (by kernel_rfl) (fun _ _ _ h => h) (by rfl) (by assumption) ?_
                try simp only [Act.put, List.setIfInBounds_toArray, List.set_cons_zero, List.set_cons_succ]
                refine take_off (i := 20) rfl (by kernel_rfl) (by kernel_rfl) (by kernel_rfl) (fun _ _ _ h => h) (by rfl) (by assumption) ?_
                try simp only [Act.put, List.setIfInBounds_toArray, List.set_cons_zero, List.set_cons_succ]
                refine take_off (i := 21) rfl (by kernel_rfl) (by kernel_rfl) (by kernel_rfl) (fun _ _ _ h => h) (by rfl) (by assumption) ?_
                try simp only [Act.put, List.setIfInBounds_toArray, List.set_cons_zero, List.set_cons_succ]
                refine take_off (i := 22) rfl (by kernel_rfl) (by kernel_rfl) (by kernel_rfl) (fun _ _ _ h => h) (by rfl) (by assumption) ?_
                try simp only [Act.put, List.setIfInBounds_toArray, List.set_cons_zero, List.set_cons_succ]
                refine take_off (i := 23) rfl (by kernel_rfl) (by kernel_rfl) (by kernel_rfl) (fun _ _ _ h => h) (by rfl) (by assumption) ?_
                try simp only [Act.put, List.setIfInBounds_toArray, List.set_cons_zero, List.set_cons_succ]
                refine take_off (i := 24) rfl (by kernel_rfl) (by kernel_rfl) (by kernel_rfl) (fun _ _ _ h => h) (by rfl) (by assumption) ?_
                try simp only [Act.put, List.setIfInBounds_toArray, List.set_cons_zero, List.set_cons_succ]
                refine take_off (i := 25) rfl (by kernel_rfl) (by kernel_rfl) (by kernel_rfl) (fun _ _ _ h => h) (by rfl) (by assumption) ?_
                try simp only [Act.put, List.setIfInBounds_toArray, List.set_cons_zero, List.set_cons_succ]
                refine take_on (i := 26) (v := ?v26a) rfl (by kernel_rfl) (by kernel_rfl) (by kernel_rfl) (fun _ _ _ h => h) (by rfl) ?hy26a (by assumption) ?_
                case hy26a => intro w hSw; (try dsimp only at hSw); go_simp <;> with_reducible rfl
                try simp only [Act.put, List.setIfInBounds_toArray, List.set_cons_zero, List.set_cons_succ]
                refine wpAnyH_done (by kernel_rfl) ?_ _
                obtain ⟨_, _, _, _, h5⟩ := ‹_ ∧ _ ∧ _ ∧ _ ∧ Below w2.heap.size w2 _›
                go_wp2_with fail
                go_ret
                exact ⟨ret_bool (by rw [← HRR.out, rcheckSB_no HZ.out k (by rw [← HLL.out]; exact hlt) (rRow_pair L s k i hik (by rw [HP.out]; rfl))]), hbw.trans ((hb4.trans (h5.mono hb4.size)).mono hbw.size)⟩
              · go_wp2_with fail
                refine wp_region_held_drew (S := (fun wa => wa.cell? ⟨b2, off2 + i * 2, none⟩ = some (.int .i64 y.1) ∧ wa.cell? ⟨b2, off2 + i * 2 + 1, none⟩ = some (.int .i64 y.2) ∧ wa.cell? ⟨b2, off2 + k * 2, none⟩ = some (.int .i64 x.1) ∧ wa.cell? ⟨b2, off2 + k * 2 + 1, none⟩ = some (.int .i64 x.2) ∧ Below w2.heap.size w2 wa)) (by kernel_rfl) H0.out (fun hHeld => ?_)
                refine take_on (i := 0) (v := ?v0b) rfl (by kernel_rfl) (by kernel_rfl) (by kernel_rfl) (fun _ _ _ h => h) (by rfl) ?hy0b (by assumption) ?_
                case hy0b => intro w hSw; (try dsimp only at hSw); go_simp <;> with_reducible rfl
                try simp only [Act.put, List.setIfInBounds_toArray, List.set_cons_zero, List.set_cons_succ]
                refine take_on (i := 1) (v := ?v1b) rfl (by kernel_rfl) (by kernel_rfl) (by kernel_rfl) (fun _ _ _ h => h) (by rfl) ?hy1b (by assumption) ?_
                case hy1b => intro w hSw; (try dsimp only at hSw); go_simp <;> with_reducible rfl
                try simp only [Act.put, List.setIfInBounds_toArray, List.set_cons_zero, List.set_cons_succ]
                refine take_on (i := 2) (v := ?v2b) rfl (by kernel_rfl) (by kernel_rfl) (by kernel_rfl) (fun _ _ _ h => h) (by rfl) ?hy2b (by assumption) ?_
                case hy2b => intro w hSw; (try dsimp only at hSw); go_simp <;> with_reducible rfl
                try simp only [Act.put, List.setIfInBounds_toArray, List.set_cons_zero, List.set_cons_succ]
                refine take_on (i := 3) (v := ?v3b) rfl (by kernel_rfl) (by kernel_rfl) (by kernel_rfl) (fun _ _ _ h => h) (by rfl) ?hy3b (by assumption) ?_
                case hy3b => intro w hSw; (try dsimp only at hSw); go_simp <;> with_reducible rfl
                try simp only [Act.put, List.setIfInBounds_toArray, List.set_cons_zero, List.set_cons_succ]
                refine take_on (i := 4) (v := ?v4b) rfl (by kernel_rfl) (by kernel_rfl) (by kernel_rfl) (fun _ _ _ h => h) (by rfl) ?hy4b (by assumption) ?_
                case hy4b => intro w hSw; (try dsimp only at hSw); go_simp <;> with_reducible rfl
                try simp only [Act.put, List.setIfInBounds_toArray, List.set_cons_zero, List.set_cons_succ]
                refine take_on (i := 5) (v := ?v5b) rfl (by kernel_rfl) (by kernel_rfl) (by kernel_rfl) (fun _ _ _ h => h) (by rfl) ?hy5b (by assumption) ?_
                case hy5b => intro w hSw; (try dsimp only at hSw); go_simp <;> with_reducible rfl
                try simp only [Act.put, List.setIfInBounds_toArray, List.set_cons_zero, List.set_cons_succ]
                refine take_on (i := 6) (v := ?v6b) rfl (by kernel_rfl) (by kernel_rfl) (by kernel_rfl) (fun _ _ _ h => h) (by rfl) ?hy6b (by assumption) ?_
                case hy6b => intro w hSw; (try dsimp only at hSw); go_simp <;> with_reducible rfl
                try simp only [Act.put, List.setIfInBounds_toArray, List.set_cons_zero, List.set_cons_succ]
                refine take_on (i := 7) (v := ?v7b) rfl (by kernel_rfl) (by kernel_rfl) (by kernel_rfl) (fun _ _ _ h => h) (by rfl) ?hy7b (by assumption) ?_
                case hy7b => intro w hSw; (try dsimp only at hSw); go_simp <;> with_reducible rfl
                try simp only [Act.put, List.setIfInBounds_toArray, List.set_cons_zero, List.set_cons_succ]
                refine take_on (i := 8) (v := ?v8b) rfl (by kernel_rfl) (by kernel_rfl) (by kernel_rfl) (fun _ _ _ h => h) (by rfl) ?hy8b (by assumption) ?_
                case hy8b => intro w hSw; (try dsimp only at hSw); go_simp <;> with_reducible rfl
                try simp only [Act.put, List.setIfInBounds_toArray, List.set_cons_zero, List.set_cons_succ]
                refine take_call (i := 9) (by kernel_rfl) rfl (fun K hK => ?_)
                go_simp
                (go_at_call 22; refine (HCI.out _).mono ?_; rintro e w' ⟨rfl, hba⟩)
                go_wp2_with fail
                refine hK.out _ _ ?_ (fun hHeld2 => ?_)
                · exact HKS.out _ _ (by assumption) (by assumption)
                clear hK K hHeld
                have hHeld := hHeld2
                clear hHeld2
                try simp only [Act.put, List.setIfInBounds_toArray, List.set_cons_zero, List.set_cons_succ]
                refine take_on (i := 10) (v := ?v10b) rfl (by kernel_rfl) (by kernel_rfl) (by kernel_rfl) (fun _ _ _ h => h) (by rfl) ?hy10b (by assumption) ?_
                case hy10b => intro w hSw; (try dsimp only at hSw); go_simp <;> with_reducible rfl
                try simp only [Act.put, List.setIfInBounds_toArray, List.set_cons_zero, List.set_cons_succ]
                refine take_on (i := 11) (v := ?v11b) rfl (by kernel_rfl) (by kernel_rfl) (by kernel_rfl) (fun _ _ _ h => h) (by rfl) ?hy11b (by assumption) ?_
                case hy11b => intro w hSw; (try dsimp only at hSw); go_simp <;> with_reducible rfl
                try simp only [Act.put, List.setIfInBounds_toArray, List.set_cons_zero, List.set_cons_succ]
                refine take_on (i := 12) (v := ?v12b) rfl (by kernel_rfl) (by kernel_rfl) (by kernel_rfl) (fun _ _ _ h => h) (by rfl) ?hy12b (by assumption) ?_
                case hy12b => intro w hSw; (try dsimp only at hSw); go_simp <;> with_reducible rfl
                try simp only [Act.put, List.setIfInBounds_toArray, List.set_cons_zero, List.set_cons_succ]
                refine take_on (i := 13) (v := ?v13b) rfl (by kernel_rfl) (by kernel_rfl) (by kernel_rfl) (fun _ _ _ h => h) (by rfl) ?hy13b (by assumption) ?_
                case hy13b => intro w hSw; (try dsimp only at hSw); go_simp <;> with_reducible rfl
                try simp only [Act.put, List.setIfInBounds_toArray, List.set_cons_zero, List.set_cons_succ]
                refine take_on (i := 14) (v := ?v14b) rfl (by kernel_rfl) (by kernel_rfl) (by kernel_rfl) (fun _ _ _ h => h) (by rfl) ?hy14b (by assumption) ?_
                case hy14b => intro w hSw; (try dsimp only at hSw); go_simp <;> with_reducible rfl
                try simp only [Act.put, List.setIfInBounds_toArray, List.set_cons_zero, List.set_cons_succ]
                refine take_off (i := 15) rfl (by kernel_rfl) (by kernel_rfl) (by kernel_rfl) (fun _ _ _ h => h) (by rfl) (by assumption) ?_
                try simp only [Act.put, List.setIfInBounds_toArray, List.set_cons_zero, List.set_cons_succ]
                refine take_off (i := 16) rfl (by kernel_rfl) (by kernel_rfl) (by kernel_rfl) (fun _ _ _ h => h) (by rfl) (by assumption) ?_
                try simp only [Act.put, List.setIfInBounds_toArray, List.set_cons_zero, List.set_cons_succ]
                refine take_off (i := 17) rfl (by kernel_rfl) (by kernel_rfl) (by kernel_rfl) (fun _ _ _ h => h) (by rfl) (by assumption) ?_
                try simp only [Act.put, List.setIfInBounds_toArray, List.set_cons_zero, List.set_cons_succ]
                refine take_off (i := 18) rfl (by kernel_rfl) (by kernel_rfl) (by kernel_rfl) (fun _ _ _ h => h) (by rfl) (by assumption) ?_
                try simp only [Act.put, List.setIfInBounds_toArray, List.set_cons_zero, List.set_cons_succ]
                refine take_off (i := 19) rfl (by kernel_rfl) (by kernel_rfl) (by kernel_rfl) (fun _ _ _ h => h) (by rfl) (by assumption) ?_
                try simp only [Act.put, List.setIfInBounds_toArray, List.set_cons_zero, List.set_cons_succ]
                refine take_off (i := 20) rfl (by kernel_rfl) (by kernel_rfl) (by kernel_rfl) (fun _ _ _ h => h) (by rfl) (by assumption) ?_
                try simp only [Act.put, List.setIfInBounds_toArray, List.set_cons_zero, List.set_cons_succ]
                refine take_off (i := 21) rfl (by kernel_rfl) (by kernel_rfl) (by kernel_rfl) (fun _ _ _ h => h) (by rfl) (by assumption) ?_
                try simp only [Act.put, List.setIfInBounds_toArray, List.set_cons_zero, List.set_cons_succ]
                refine take_off (i := 22) rfl (by kernel_rfl) (by kernel_rfl) (by kernel_rfl) (fun _ _ _ h => h) (by rfl) (by assumption) ?_
                try simp only [Act.put, List.setIfInBounds_toArray, List.set_cons_zero, List.set_cons_succ]
                refine take_off (i := 23) rfl (by kernel_rfl) (by kernel_rfl) (by kernel_rfl) (fun _ _ _ h => h) (by rfl) (by assumption) ?_
                try simp only [Act.put, List.setIfInBounds_toArray, List.set_cons_zero, List.set_cons_succ]
                refine take_off (i := 24) rfl (by kernel_rfl) (by kernel_rfl) (by kernel_rfl) (fun _ _ _ h => h) (by rfl) (by assumption) ?_
                try simp only [Act.put, List.setIfInBounds_toArray, List.set_cons_zero, List.set_cons_succ]
                refine take_on (i := 25) (v := ?v25b) rfl (by kernel_rfl) (by kernel_rfl) (by kernel_rfl) (fun _ _ _ h => h) (by rfl) ?hy25b (by assumption) ?_
                case hy25b => intro w hSw; (try dsimp only at hSw); go_simp <;> with_reducible rfl
                try simp only [Act.put, List.setIfInBounds_toArray, List.set_cons_zero, List.set_cons_succ]
                refine take_on (i := 26) (v := ?v26b) rfl (by kernel_rfl) (by kernel_rfl) (by kernel_rfl) (fun _ _ _ h => h) (by rfl) ?hy26b (by assumption) ?_
                case hy26b => intro w hSw; (try dsimp only at hSw); go_simp <;> with_reducible rfl
                try simp only [Act.put, List.setIfInBounds_toArray, List.set_cons_zero, List.set_cons_succ]
                refine wpAnyH_done (by kernel_rfl) ?_ _
                obtain ⟨_, _, _, _, h5⟩ := ‹_ ∧ _ ∧ _ ∧ _ ∧ Below w2.heap.size w2 _›
                go_wp2_with fail
                go_roundw
                case rel =>
                  refine ⟨i + 1, by omega, by go_num, Lib.hid fun l hl => ?_, hb4.trans (h5.mono hb4.size)⟩
                  by_cases hji : l < i
                  · exact HPK.out l hji
                  · obtain rfl : l = i := by omega
                    rw [HP.out]; rfl
                case measure => simp [intOf]; omega
            · have HP : Hid (rPair L s k i = ((false == qi) && (qi || qa))) := by rw [HP0.out, decide_eq_false hE]; exact Lib.hid rfl
              clear HP0
              cases qi
              · cases qa
                · go_wp2_with fail
                  refine wp_region_held_drew (S := (fun wa => wa.cell? ⟨b2, off2 + i * 2, none⟩ = some (.int .i64 y.1) ∧ wa.cell? ⟨b2, off2 + i * 2 + 1, none⟩ = some (.int .i64 y.2) ∧ wa.cell? ⟨b2, off2 + k * 2, none⟩ = some (.int .i64 x.1) ∧ wa.cell? ⟨b2, off2 + k * 2 + 1, none⟩ = some (.int .i64 x.2) ∧ Below w2.heap.size w2 wa)) (by kernel_rfl) H0.out (fun hHeld => ?_)
                  refine take_on (i := 0) (v := ?v0c) rfl (by kernel_rfl) (by kernel_rfl) (by kernel_rfl) (fun _ _ _ h => h) (by rfl) ?hy0c (by assumption) ?_
                  case hy0c => intro w hSw; (try dsimp only at hSw); go_simp <;> with_reducible rfl
                  try simp only [Act.put, List.setIfInBounds_toArray, List.set_cons_zero, List.set_cons_succ]
                  refine take_on (i := 1) (v := ?v1c) rfl (by kernel_rfl) (by kernel_rfl) (by kernel_rfl) (fun _ _ _ h => h) (by rfl) ?hy1c (by assumption) ?_
                  case hy1c => intro w hSw; (try dsimp only at hSw); go_simp <;> with_reducible rfl
                  try simp only [Act.put, List.setIfInBounds_toArray, List.set_cons_zero, List.set_cons_succ]
                  refine take_on (i := 2) (v := ?v2c) rfl (by kernel_rfl) (by kernel_rfl) (by kernel_rfl) (fun _ _ _ h => h) (by rfl) ?hy2c (by assumption) ?_
                  case hy2c => intro w hSw; (try dsimp only at hSw); go_simp <;> with_reducible rfl
                  try simp only [Act.put, List.setIfInBounds_toArray, List.set_cons_zero, List.set_cons_succ]
                  refine take_on (i := 3) (v := ?v3c) rfl (by kernel_rfl) (by kernel_rfl) (by kernel_rfl) (fun _ _ _ h => h) (by rfl) ?hy3c (by assumption) ?_
                  case hy3c => intro w hSw; (try dsimp only at hSw); go_simp <;> with_reducible rfl
                  try simp only [Act.put, List.setIfInBounds_toArray, List.set_cons_zero, List.set_cons_succ]
                  refine take_on (i := 4) (v := ?v4c) rfl (by kernel_rfl) (by kernel_rfl) (by kernel_rfl) (fun _ _ _ h => h) (by rfl) ?hy4c (by assumption) ?_
                  case hy4c => intro w hSw; (try dsimp only at hSw); go_simp <;> with_reducible rfl
                  try simp only [Act.put, List.setIfInBounds_toArray, List.set_cons_zero, List.set_cons_succ]
                  refine take_on (i := 5) (v := ?v5c) rfl (by kernel_rfl) (by kernel_rfl) (by kernel_rfl) (fun _ _ _ h => h) (by rfl) ?hy5c (by assumption) ?_
                  case hy5c => intro w hSw; (try dsimp only at hSw); go_simp <;> with_reducible rfl
                  try simp only [Act.put, List.setIfInBounds_toArray, List.set_cons_zero, List.set_cons_succ]
                  refine take_on (i := 6) (v := ?v6c) rfl (by kernel_rfl) (by kernel_rfl) (by kernel_rfl) (fun _ _ _ h => h) (by rfl) ?hy6c (by assumption) ?_
                  case hy6c => intro w hSw; (try dsimp only at hSw); go_simp <;> with_reducible rfl
                  try simp only [Act.put, List.setIfInBounds_toArray, List.set_cons_zero, List.set_cons_succ]
                  refine take_on (i := 7) (v := ?v7c) rfl (by kernel_rfl) (by kernel_rfl) (by kernel_rfl) (fun _ _ _ h => h) (by rfl) ?hy7c (by assumption) ?_
                  case hy7c => intro w hSw; (try dsimp only at hSw); go_simp <;> with_reducible rfl
                  try simp only [Act.put, List.setIfInBounds_toArray, List.set_cons_zero, List.set_cons_succ]
                  refine take_on (i := 8) (v := ?v8c) rfl (by kernel_rfl) (by kernel_rfl) (by kernel_rfl) (fun _ _ _ h => h) (by rfl) ?hy8c (by assumption) ?_
                  case hy8c => intro w hSw; (try dsimp only at hSw); go_simp <;> with_reducible rfl
                  try simp only [Act.put, List.setIfInBounds_toArray, List.set_cons_zero, List.set_cons_succ]
                  refine take_call (i := 9) (by kernel_rfl) rfl (fun K hK => ?_)
                  go_simp
                  (go_at_call 22; refine (HCI.out _).mono ?_; rintro e w' ⟨rfl, hba⟩)
                  go_wp2_with fail
                  refine hK.out _ _ ?_ (fun hHeld2 => ?_)
                  · exact HKS.out _ _ (by assumption) (by assumption)
                  clear hK K hHeld
                  have hHeld := hHeld2
                  clear hHeld2
                  try simp only [Act.put, List.setIfInBounds_toArray, List.set_cons_zero, List.set_cons_succ]
                  refine take_on (i := 10) (v := ?v10c) rfl (by kernel_rfl) (by kernel_rfl) (by kernel_rfl) (fun _ _ _ h => h) (by rfl) ?hy10c (by assumption) ?_
                  case hy10c => intro w hSw; (try dsimp only at hSw); go_simp <;> with_reducible rfl
                  try simp only [Act.put, List.setIfInBounds_toArray, List.set_cons_zero, List.set_cons_succ]
                  refine take_on (i := 11) (v := ?v11c) rfl (by kernel_rfl) (by kernel_rfl) (by kernel_rfl) (fun _ _ _ h => h) (by rfl) ?hy11c (by assumption) ?_
                  case hy11c => intro w hSw; (try dsimp only at hSw); go_simp <;> with_reducible rfl
                  try simp only [Act.put, List.setIfInBounds_toArray, List.set_cons_zero, List.set_cons_succ]
                  refine take_on (i := 12) (v := ?v12c) rfl (by kernel_rfl) (by kernel_rfl) (by kernel_rfl) (fun _ _ _ h => h) (by rfl) ?hy12c (by assumption) ?_
                  case hy12c => intro w hSw; (try dsimp only at hSw); go_simp <;> with_reducible rfl
                  try simp only [Act.put, List.setIfInBounds_toArray, List.set_cons_zero, List.set_cons_succ]
                  refine take_on (i := 13) (v := ?v13c) rfl (by kernel_rfl) (by kernel_rfl) (by kernel_rfl) (fun _ _ _ h => h) (by rfl) ?hy13c (by assumption) ?_
                  case hy13c => intro w hSw; (try dsimp only at hSw); go_simp <;> with_reducible rfl
                  try simp only [Act.put, List.setIfInBounds_toArray, List.set_cons_zero, List.set_cons_succ]
                  refine take_on (i := 14) (v := ?v14c) rfl (by kernel_rfl) (by kernel_rfl) (by kernel_rfl) (fun _ _ _ h => h) (by rfl) ?hy14c (by assumption) ?_
                  case hy14c => intro w hSw; (try dsimp only at hSw); go_simp <;> with_reducible rfl
                  try simp only [Act.put, List.setIfInBounds_toArray, List.set_cons_zero, List.set_cons_succ]
                  refine take_on (i := 15) (v := ?v15c) rfl (by kernel_rfl) (by kernel_rfl) (by kernel_rfl) (fun _ _ _ h => h) (by rfl) ?hy15c (by assumption) ?_
                  case hy15c => intro w hSw; (try dsimp only at hSw); go_simp <;> with_reducible rfl
                  try simp only [Act.put, List.setIfInBounds_toArray, List.set_cons_zero, List.set_cons_succ]
                  refine take_on (i := 16) (v := ?v16c) rfl (by kernel_rfl) (by kernel_rfl) (by kernel_rfl) (fun _ _ _ h => h) (by rfl) ?hy16c (by assumption) ?_
                  case hy16c => intro w hSw; (try dsimp only at hSw); go_simp <;> with_reducible rfl
                  try simp only [Act.put, List.setIfInBounds_toArray, List.set_cons_zero, List.set_cons_succ]
                  refine take_on (i := 17) (v := ?v17c) rfl (by kernel_rfl) (by kernel_rfl) (by kernel_rfl) (fun _ _ _ h => h) (by rfl) ?hy17c (by assumption) ?_
                  case hy17c => intro w hSw; (try dsimp only at hSw); go_simp <;> with_reducible rfl
                  try simp only [Act.put, List.setIfInBounds_toArray, List.set_cons_zero, List.set_cons_succ]
                  refine take_on (i := 18) (v := ?v18c) rfl (by kernel_rfl) (by kernel_rfl) (by kernel_rfl) (fun _ _ _ h => h) (by rfl) ?hy18c (by assumption) ?_
                  case hy18c => intro w hSw; (try dsimp only at hSw); go_simp <;> with_reducible rfl
                  try simp only [Act.put, List.setIfInBounds_toArray, List.set_cons_zero, List.set_cons_succ]
                  refine take_on (i := 19) (v := ?v19c) rfl (by kernel_rfl) (by kernel_rfl) (by kernel_rfl) (fun _ _ _ h => h) (by rfl) ?hy19c (by assumption) ?_
                  case hy19c => intro w hSw; (try dsimp only at hSw); go_simp <;> with_reducible rfl
                  try simp only [Act.put, List.setIfInBounds_toArray, List.set_cons_zero, List.set_cons_succ]
                  refine take_on (i := 20) (v := ?v20c) rfl (by kernel_rfl) (by kernel_rfl) (by kernel_rfl) (fun _ _ _ h => h) (by rfl) ?hy20c (by assumption) ?_
                  case hy20c => intro w hSw; (try dsimp only at hSw); go_simp <;> with_reducible rfl
                  try simp only [Act.put, List.setIfInBounds_toArray, List.set_cons_zero, List.set_cons_succ]
                  refine take_on (i := 21) (v := ?v21c) rfl (by kernel_rfl) (by kernel_rfl) (by kernel_rfl) (fun _ _ _ h => h) (by rfl) ?hy21c (by assumption) ?_
                  case hy21c => intro w hSw; (try dsimp only at hSw); go_simp <;> with_reducible rfl
                  try simp only [Act.put, List.setIfInBounds_toArray, List.set_cons_zero, List.set_cons_succ]
                  refine take_on (i := 22) (v := ?v22c) rfl (by kernel_rfl) (by kernel_rfl) (by kernel_rfl) (fun _ _ _ h => h) (by rfl) ?hy22c (by assumption) ?_
                  case hy22c => intro w hSw; (try dsimp only at hSw); go_simp <;> with_reducible rfl
                  try simp only [Act.put, List.setIfInBounds_toArray, List.set_cons_zero, List.set_cons_succ]
                  refine take_call (i := 23) (by kernel_rfl) rfl (fun K hK => ?_)
                  go_simp
                  (go_at_call 23; refine (HCA.out _).mono ?_; rintro e w' ⟨rfl, hba⟩)
                  go_wp2_with fail
                  refine hK.out _ _ ?_ (fun hHeld2 => ?_)
                  · exact HKS.out _ _ (by assumption) (by assumption)
                  clear hK K hHeld
                  have hHeld := hHeld2
                  clear hHeld2
                  try simp only [Act.put, List.setIfInBounds_toArray, List.set_cons_zero, List.set_cons_succ]
                  refine take_on (i := 24) (v := ?v24c) rfl (by kernel_rfl) (by kernel_rfl) (by kernel_rfl) (fun _ _ _ h => h) (by rfl) ?hy24c (by assumption) ?_
                  case hy24c => intro w hSw; (try dsimp only at hSw); go_simp <;> with_reducible rfl
                  try simp only [Act.put, List.setIfInBounds_toArray, List.set_cons_zero, List.set_cons_succ]
                  refine take_on (i := 25) (v := ?v25c) rfl (by kernel_rfl) (by kernel_rfl) (by kernel_rfl) (fun _ _ _ h => h) (by rfl) ?hy25c (by assumption) ?_
                  case hy25c => intro w hSw; (try dsimp only at hSw); go_simp <;> with_reducible rfl
                  try simp only [Act.put, List.setIfInBounds_toArray, List.set_cons_zero, List.set_cons_succ]
                  refine take_on (i := 26) (v := ?v26c) rfl (by kernel_rfl) (by kernel_rfl) (by kernel_rfl) (fun _ _ _ h => h) (by rfl) ?hy26c (by assumption) ?_
                  case hy26c => intro w hSw; (try dsimp only at hSw); go_simp <;> with_reducible rfl
                  try simp only [Act.put, List.setIfInBounds_toArray, List.set_cons_zero, List.set_cons_succ]
                  refine wpAnyH_done (by kernel_rfl) ?_ _
                  obtain ⟨_, _, _, _, h5⟩ := ‹_ ∧ _ ∧ _ ∧ _ ∧ Below w2.heap.size w2 _›
                  go_wp2_with fail
                  go_ret
                  exact ⟨ret_bool (by rw [← HRR.out, rcheckSB_no HZ.out k (by rw [← HLL.out]; exact hlt) (rRow_pair L s k i hik (by rw [HP.out]; rfl))]), hbw.trans ((hb4.trans (h5.mono hb4.size)).mono hbw.size)⟩
                · go_wp2_with fail
                  refine wp_region_held_drew (S := (fun wa => wa.cell? ⟨b2, off2 + i * 2, none⟩ = some (.int .i64 y.1) ∧ wa.cell? ⟨b2, off2 + i * 2 + 1, none⟩ = some (.int .i64 y.2) ∧ wa.cell? ⟨b2, off2 + k * 2, none⟩ = some (.int .i64 x.1) ∧ wa.cell? ⟨b2, off2 + k * 2 + 1, none⟩ = some (.int .i64 x.2) ∧ Below w2.heap.size w2 wa)) (by kernel_rfl) H0.out (fun hHeld => ?_)
                  refine take_on (i := 0) (v := ?v0d) rfl (by kernel_rfl) (by kernel_rfl) (by kernel_rfl) (fun _ _ _ h => h) (by rfl) ?hy0d (by assumption) ?_
                  case hy0d => intro w hSw; (try dsimp only at hSw); go_simp <;> with_reducible rfl
                  try simp only [Act.put, List.setIfInBounds_toArray, List.set_cons_zero, List.set_cons_succ]
                  refine take_on (i := 1) (v := ?v1d) rfl (by kernel_rfl) (by kernel_rfl) (by kernel_rfl) (fun _ _ _ h => h) (by rfl) ?hy1d (by assumption) ?_
                  case hy1d => intro w hSw; (try dsimp only at hSw); go_simp <;> with_reducible rfl
                  try simp only [Act.put, List.setIfInBounds_toArray, List.set_cons_zero, List.set_cons_succ]
                  refine take_on (i := 2) (v := ?v2d) rfl (by kernel_rfl) (by kernel_rfl) (by kernel_rfl) (fun _ _ _ h => h) (by rfl) ?hy2d (by assumption) ?_
                  case hy2d => intro w hSw; (try dsimp only at hSw); go_simp <;> with_reducible rfl
                  try simp only [Act.put, List.setIfInBounds_toArray, List.set_cons_zero, List.set_cons_succ]
                  refine take_on (i := 3) (v := ?v3d) rfl (by kernel_rfl) (by kernel_rfl) (by kernel_rfl) (fun _ _ _ h => h) (by rfl) ?hy3d (by assumption) ?_
                  case hy3d => intro w hSw; (try dsimp only at hSw); go_simp <;> with_reducible rfl
                  try simp only [Act.put, List.setIfInBounds_toArray, List.set_cons_zero, List.set_cons_succ]
                  refine take_on (i := 4) (v := ?v4d) rfl (by kernel_rfl) (by kernel_rfl) (by kernel_rfl) (fun _ _ _ h => h) (by rfl) ?hy4d (by assumption) ?_
                  case hy4d => intro w hSw; (try dsimp only at hSw); go_simp <;> with_reducible rfl
                  try simp only [Act.put, List.setIfInBounds_toArray, List.set_cons_zero, List.set_cons_succ]
                  refine take_on (i := 5) (v := ?v5d) rfl (by kernel_rfl) (by kernel_rfl) (by kernel_rfl) (fun _ _ _ h => h) (by rfl) ?hy5d (by assumption) ?_
                  case hy5d => intro w hSw; (try dsimp only at hSw); go_simp <;> with_reducible rfl
                  try simp only [Act.put, List.setIfInBounds_toArray, List.set_cons_zero, List.set_cons_succ]
                  refine take_on (i := 6) (v := ?v6d) rfl (by kernel_rfl) (by kernel_rfl) (by kernel_rfl) (fun _ _ _ h => h) (by rfl) ?hy6d (by assumption) ?_
                  case hy6d => intro w hSw; (try dsimp only at hSw); go_simp <;> with_reducible rfl
                  try simp only [Act.put, List.setIfInBounds_toArray, List.set_cons_zero, List.set_cons_succ]
                  refine take_on (i := 7) (v := ?v7d) rfl (by kernel_rfl) (by kernel_rfl) (by kernel_rfl) (fun _ _ _ h => h) (by rfl) ?hy7d (by assumption) ?_
                  case hy7d => intro w hSw; (try dsimp only at hSw); go_simp <;> with_reducible rfl
                  try simp only [Act.put, List.setIfInBounds_toArray, List.set_cons_zero, List.set_cons_succ]
                  refine take_on (i := 8) (v := ?v8d) rfl (by kernel_rfl) (by kernel_rfl) (by kernel_rfl) (fun _ _ _ h => h) (by rfl) ?hy8d (by assumption) ?_
                  case hy8d => intro w hSw; (try dsimp only at hSw); go_simp <;> with_reducible rfl
                  try simp only [Act.put, List.setIfInBounds_toArray, List.set_cons_zero, List.set_cons_succ]
                  refine take_call (i := 9) (by kernel_rfl) rfl (fun K hK => ?_)
                  go_simp
                  (go_at_call 22; refine (HCI.out _).mono ?_; rintro e w' ⟨rfl, hba⟩)
                  go_wp2_with fail
                  refine hK.out _ _ ?_ (fun hHeld2 => ?_)
                  · exact HKS.out _ _ (by assumption) (by assumption)
                  clear hK K hHeld
                  have hHeld := hHeld2
                  clear hHeld2
                  try simp only [Act.put, List.setIfInBounds_toArray, List.set_cons_zero, List.set_cons_succ]
                  refine take_on (i := 10) (v := ?v10d) rfl (by kernel_rfl) (by kernel_rfl) (by kernel_rfl) (fun _ _ _ h => h) (by rfl) ?hy10d (by assumption) ?_
                  case hy10d => intro w hSw; (try dsimp only at hSw); go_simp <;> with_reducible rfl
                  try simp only [Act.put, List.setIfInBounds_toArray, List.set_cons_zero, List.set_cons_succ]
                  refine take_on (i := 11) (v := ?v11d) rfl (by kernel_rfl) (by kernel_rfl) (by kernel_rfl) (fun _ _ _ h => h) (by rfl) ?hy11d (by assumption) ?_
                  case hy11d => intro w hSw; (try dsimp only at hSw); go_simp <;> with_reducible rfl
                  try simp only [Act.put, List.setIfInBounds_toArray, List.set_cons_zero, List.set_cons_succ]
                  refine take_on (i := 12) (v := ?v12d) rfl (by kernel_rfl) (by kernel_rfl) (by kernel_rfl) (fun _ _ _ h => h) (by rfl) ?hy12d (by assumption) ?_
                  case hy12d => intro w hSw; (try dsimp only at hSw); go_simp <;> with_reducible rfl
                  try simp only [Act.put, List.setIfInBounds_toArray, List.set_cons_zero, List.set_cons_succ]
                  refine take_on (i := 13) (v := ?v13d) rfl (by kernel_rfl) (by kernel_rfl) (by kernel_rfl) (fun _ _ _ h => h) (by rfl) ?hy13d (by assumption) ?_
                  case hy13d => intro w hSw; (try dsimp only at hSw); go_simp <;> with_reducible rfl
                  try simp only [Act.put, List.setIfInBounds_toArray, List.set_cons_zero, List.set_cons_succ]
                  refine take_on (i := 14) (v := ?v14d) rfl (by kernel_rfl) (by kernel_rfl) (by kernel_rfl) (fun _ _ _ h => h) (by rfl) ?hy14d (by assumption) ?_
                  case hy14d => intro w hSw; (try dsimp only at hSw); go_simp <;> with_reducible rfl
                  try simp only [Act.put, List.setIfInBounds_toArray, List.set_cons_zero, List.set_cons_succ]
                  refine take_on (i := 15) (v := ?v15d) rfl (by kernel_rfl) (by kernel_rfl) (by kernel_rfl) (fun _ _ _ h => h) (by rfl) ?hy15d (by assumption) ?_
                  case hy15d => intro w hSw; (try dsimp only at hSw); go_simp <;> with_reducible rfl
                  try simp only [Act.put, List.setIfInBounds_toArray, List.set_cons_zero, List.set_cons_succ]
                  refine take_on (i := 16) (v := ?v16d) rfl (by kernel_rfl) (by kernel_rfl) (by kernel_rfl) (fun _ _ _ h => h) (by rfl) ?hy16d (by assumption) ?_
                  case hy16d => intro w hSw; (try dsimp only at hSw); go_simp <;> with_reducible rfl
                  try simp only [Act.put, List.setIfInBounds_toArray, List.set_cons_zero, List.set_cons_succ]
                  refine take_on (i := 17) (v := ?v17d) rfl (by kernel_rfl) (by kernel_rfl) (by kernel_rfl) (fun _ _ _ h => h) (by rfl) ?hy17d (by assumption) ?_
                  case hy17d => intro w hSw; (try dsimp only at hSw); go_simp <;> with_reducible rfl
                  try simp only [Act.put, List.setIfInBounds_toArray, List.set_cons_zero, List.set_cons_succ]
                  refine take_on (i := 18) (v := ?v18d) rfl (by kernel_rfl) (by kernel_rfl) (by kernel_rfl) (fun _ _ _ h => h) (by rfl) ?hy18d (by assumption) ?_
                  case hy18d => intro w hSw; (try dsimp only at hSw); go_simp <;> with_reducible rfl
                  try simp only [Act.put, List.setIfInBounds_toArray, List.set_cons_zero, List.set_cons_succ]
                  refine take_on (i := 19) (v := ?v19d) rfl (by kernel_rfl) (by kernel_rfl) (by kernel_rfl) (fun _ _ _ h => h) (by rfl) ?hy19d (by assumption) ?_
                  case hy19d => intro w hSw; (try dsimp only at hSw); go_simp <;> with_reducible rfl
                  try simp only [Act.put, List.setIfInBounds_toArray, List.set_cons_zero, List.set_cons_succ]
                  refine take_on (i := 20) (v := ?v20d) rfl (by kernel_rfl) (by kernel_rfl) (by kernel_rfl) (fun _ _ _ h => h) (by rfl) ?hy20d (by assumption) ?_
                  case hy20d => intro w hSw; (try dsimp only at hSw); go_simp <;> with_reducible rfl
                  try simp only [Act.put, List.setIfInBounds_toArray, List.set_cons_zero, List.set_cons_succ]
                  refine take_on (i := 21) (v := ?v21d) rfl (by kernel_rfl) (by kernel_rfl) (by kernel_rfl) (fun _ _ _ h => h) (by rfl) ?hy21d (by assumption) ?_
                  case hy21d => intro w hSw; (try dsimp only at hSw); go_simp <;> with_reducible rfl
                  try simp only [Act.put, List.setIfInBounds_toArray, List.set_cons_zero, List.set_cons_succ]
                  refine take_on (i := 22) (v := ?v22d) rfl (by kernel_rfl) (by kernel_rfl) (by kernel_rfl) (fun _ _ _ h => h) (by rfl) ?hy22d (by assumption) ?_
                  case hy22d => intro w hSw; (try dsimp only at hSw); go_simp <;> with_reducible rfl
                  try simp only [Act.put, List.setIfInBounds_toArray, List.set_cons_zero, List.set_cons_succ]
                  refine take_call (i := 23) (by kernel_rfl) rfl (fun K hK => ?_)
                  go_simp
                  (go_at_call 23; refine (HCA.out _).mono ?_; rintro e w' ⟨rfl, hba⟩)
                  go_wp2_with fail
                  refine hK.out _ _ ?_ (fun hHeld2 => ?_)
                  · exact HKS.out _ _ (by assumption) (by assumption)
                  clear hK K hHeld
                  have hHeld := hHeld2
                  clear hHeld2
                  try simp only [Act.put, List.setIfInBounds_toArray, List.set_cons_zero, List.set_cons_succ]
                  refine take_on (i := 24) (v := ?v24d) rfl (by kernel_rfl) (by kernel_rfl) (by kernel_rfl) (fun _ _ _ h => h) (by rfl) ?hy24d (by assumption) ?_
                  case hy24d => intro w hSw; (try dsimp only at hSw); go_simp <;> with_reducible rfl
                  try simp only [Act.put, List.setIfInBounds_toArray, List.set_cons_zero, List.set_cons_succ]
                  refine take_on (i := 25) (v := ?v25d) rfl (by kernel_rfl) (by kernel_rfl) (by kernel_rfl) (fun _ _ _ h => h) (by rfl) ?hy25d (by assumption) ?_
                  case hy25d => intro w hSw; (try dsimp only at hSw); go_simp <;> with_reducible rfl
                  try simp only [Act.put, List.setIfInBounds_toArray, List.set_cons_zero, List.set_cons_succ]
                  refine take_on (i := 26) (v := ?v26d) rfl (by kernel_rfl) (by kernel_rfl) (by kernel_rfl) (fun _ _ _ h => h) (by rfl) ?hy26d (by assumption) ?_
                  case hy26d => intro w hSw; (try dsimp only at hSw); go_simp <;> with_reducible rfl
                  try simp only [Act.put, List.setIfInBounds_toArray, List.set_cons_zero, List.set_cons_succ]
                  refine wpAnyH_done (by kernel_rfl) ?_ _
                  obtain ⟨_, _, _, _, h5⟩ := ‹_ ∧ _ ∧ _ ∧ _ ∧ Below w2.heap.size w2 _›
                  go_wp2_with fail
                  go_roundw
                  case rel =>
                    refine ⟨i + 1, by omega, by go_num, Lib.hid fun l hl => ?_, hb4.trans (h5.mono hb4.size)⟩
                    by_cases hji : l < i
                    · exact HPK.out l hji
                    · obtain rfl : l = i := by omega
                      rw [HP.out]; rfl
                  case measure => simp [intOf]; omega
              · go_wp2_with fail
                refine wp_region_held_drew (S := (fun wa => wa.cell? ⟨b2, off2 + i * 2, none⟩ = some (.int .i64 y.1) ∧ wa.cell? ⟨b2, off2 + i * 2 + 1, none⟩ = some (.int .i64 y.2) ∧ wa.cell? ⟨b2, off2 + k * 2, none⟩ = some (.int .i64 x.1) ∧ wa.cell? ⟨b2, off2 + k * 2 + 1, none⟩ = some (.int .i64 x.2) ∧ Below w2.heap.size w2 wa)) (by kernel_rfl) H0.out (fun hHeld => ?_)
                refine take_on (i := 0) (v := ?v0e) rfl (by kernel_rfl) (by kernel_rfl) (by kernel_rfl) (fun _ _ _ h => h) (by rfl) ?hy0e (by assumption) ?_
                case hy0e => intro w hSw; (try dsimp only at hSw); go_simp <;> with_reducible rfl
                try simp only [Act.put, List.setIfInBounds_toArray, List.set_cons_zero, List.set_cons_succ]
                refine take_on (i := 1) (v := ?v1e) rfl (by kernel_rfl) (by kernel_rfl) (by kernel_rfl) (fun _ _ _ h => h) (by rfl) ?hy1e (by assumption) ?_
                case hy1e => intro w hSw; (try dsimp only at hSw); go_simp <;> with_reducible rfl
                try simp only [Act.put, List.setIfInBounds_toArray, List.set_cons_zero, List.set_cons_succ]
                refine take_on (i := 2) (v := ?v2e) rfl (by kernel_rfl) (by kernel_rfl) (by kernel_rfl) (fun _ _ _ h => h) (by rfl) ?hy2e (by assumption) ?_
                case hy2e => intro w hSw; (try dsimp only at hSw); go_simp <;> with_reducible rfl
                try simp only [Act.put, List.setIfInBounds_toArray, List.set_cons_zero, List.set_cons_succ]
                refine take_on (i := 3) (v := ?v3e) rfl (by kernel_rfl) (by kernel_rfl) (by kernel_rfl) (fun _ _ _ h => h) (by rfl) ?hy3e (by assumption) ?_
                case hy3e => intro w hSw; (try dsimp only at hSw); go_simp <;> with_reducible rfl
                try simp only [Act.put, List.setIfInBounds_toArray, List.set_cons_zero, List.set_cons_succ]
                refine take_on (i := 4) (v := ?v4e) rfl (by kernel_rfl) (by kernel_rfl) (by kernel_rfl) (fun _ _ _ h => h) (by rfl) ?hy4e (by assumption) ?_
                case hy4e => intro w hSw; (try dsimp only at hSw); go_simp <;> with_reducible rfl
                try simp only [Act.put, List.setIfInBounds_toArray, List.set_cons_zero, List.set_cons_succ]
                refine take_on (i := 5) (v := ?v5e) rfl (by kernel_rfl) (by kernel_rfl) (by kernel_rfl) (fun _ _ _ h => h) (by rfl) ?hy5e (by assumption) ?_
                case hy5e => intro w hSw; (try dsimp only at hSw); go_simp <;> with_reducible rfl
                try simp only [Act.put, List.setIfInBounds_toArray, List.set_cons_zero, List.set_cons_succ]
                refine take_on (i := 6) (v := ?v6e) rfl (by kernel_rfl) (by kernel_rfl) (by kernel_rfl) (fun _ _ _ h => h) (by rfl) ?hy6e (by assumption) ?_
                case hy6e => intro w hSw; (try dsimp only at hSw); go_simp <;> with_reducible rfl
                try simp only [Act.put, List.setIfInBounds_toArray, List.set_cons_zero, List.set_cons_succ]
                refine take_on (i := 7) (v := ?v7e) rfl (by kernel_rfl) (by kernel_rfl) (by kernel_rfl) (fun _ _ _ h => h) (by rfl) ?hy7e (by assumption) ?_
                case hy7e => intro w hSw; (try dsimp only at hSw); go_simp <;> with_reducible rfl
                try simp only [Act.put, List.setIfInBounds_toArray, List.set_cons_zero, List.set_cons_succ]
                refine take_on (i := 8) (v := ?v8e) rfl (by kernel_rfl) (by kernel_rfl) (by kernel_rfl) (fun _ _ _ h => h) (by rfl) ?hy8e (by assumption) ?_
                case hy8e => intro w hSw; (try dsimp only at hSw); go_simp <;> with_reducible rfl
                try simp only [Act.put, List.setIfInBounds_toArray, List.set_cons_zero, List.set_cons_succ]
                refine take_call (i := 9) (by kernel_rfl) rfl (fun K hK => ?_)
                go_simp
                (go_at_call 22; refine (HCI.out _).mono ?_; rintro e w' ⟨rfl, hba⟩)
                go_wp2_with fail
                refine hK.out _ _ ?_ (fun hHeld2 => ?_)
                · exact HKS.out _ _ (by assumption) (by assumption)
                clear hK K hHeld
                have hHeld := hHeld2
                clear hHeld2
                try simp only [Act.put, List.setIfInBounds_toArray, List.set_cons_zero, List.set_cons_succ]
                refine take_on (i := 10) (v := ?v10e) rfl (by kernel_rfl) (by kernel_rfl) (by kernel_rfl) (fun _ _ _ h => h) (by rfl) ?hy10e (by assumption) ?_
                case hy10e => intro w hSw; (try dsimp only at hSw); go_simp <;> with_reducible rfl
                try simp only [Act.put, List.setIfInBounds_toArray, List.set_cons_zero, List.set_cons_succ]
                refine take_on (i := 11) (v := ?v11e) rfl (by kernel_rfl) (by kernel_rfl) (by kernel_rfl) (fun _ _ _ h => h) (by rfl) ?hy11e (by assumption) ?_
                case hy11e => intro w hSw; (try dsimp only at hSw); go_simp <;> with_reducible rfl
                try simp only [Act.put, List.setIfInBounds_toArray, List.set_cons_zero, List.set_cons_succ]
                refine take_off (i := 12) rfl (by kernel_rfl) (by kernel_rfl) (by kernel_rfl) (fun _ _ _ h => h) (by rfl) (by assumption) ?_
                try simp only [Act.put, List.setIfInBounds_toArray, List.set_cons_zero, List.set_cons_succ]
                refine take_off (i := 13) rfl (by kernel_rfl) (by kernel_rfl) (by kernel_rfl) (fun _ _ _ h => h) (by rfl) (by assumption) ?_
                try simp only [Act.put, List.setIfInBounds_toArray, List.set_cons_zero, List.set_cons_succ]
                refine take_off (i := 14) rfl (by kernel_rfl) (by kernel_rfl) (by kernel_rfl) (fun _ _ _ h => h) (by rfl) (by assumption) ?_
                try simp only [Act.put, List.setIfInBounds_toArray, List.set_cons_zero, List.set_cons_succ]
                refine take_off (i := 15) rfl (by kernel_rfl) (by kernel_rfl) (by kernel_rfl) (fun _ _ _ h => h) (by rfl) (by assumption) ?_
                try simp only [Act.put, List.setIfInBounds_toArray, List.set_cons_zero, List.set_cons_succ]
                refine take_off (i := 16) rfl (by kernel_rfl) (by kernel_rfl) (by kernel_rfl) (fun _ _ _ h => h) (by rfl) (by assumption) ?_
                try simp only [Act.put, List.setIfInBounds_toArray, List.set_cons_zero, List.set_cons_succ]
                refine take_off (i := 17) rfl (by kernel_rfl) (by kernel_rfl) (by kernel_rfl) (fun _ _ _ h => h) (by rfl) (by assumption) ?_
                try simp only [Act.put, List.setIfInBounds_toArray, List.set_cons_zero, List.set_cons_succ]
                refine take_off (i := 18) rfl (by kernel_rfl) (by kernel_rfl) (by kernel_rfl) (fun _ _ _ h => h) (by rfl) (by assumption) ?_
                try simp only [Act.put, List.setIfInBounds_toArray, List.set_cons_zero, List.set_cons_succ]
                refine take_off (i := 19) rfl (by kernel_rfl) (by kernel_rfl) (by kernel_rfl) (fun _ _ _ h => h) (by rfl) (by assumption) ?_
                try simp only [Act.put, List.setIfInBounds_toArray, List.set_cons_zero, List.set_cons_succ]
                refine take_off (i := 20) rfl (by kernel_rfl) (by kernel_rfl) (by kernel_rfl) (fun _ _ _ h => h) (by rfl) (by assumption) ?_
                try simp only [Act.put, List.setIfInBounds_toArray, List.set_cons_zero, List.set_cons_succ]
                refine take_off (i := 21) rfl (by kernel_rfl) (by kernel_rfl) (by kernel_rfl) (fun _ _ _ h => h) (by rfl) (by assumption) ?_
                try simp only [Act.put, List.setIfInBounds_toArray, List.set_cons_zero, List.set_cons_succ]
                refine take_off (i := 22) rfl (by kernel_rfl) (by kernel_rfl) (by kernel_rfl) (fun _ _ _ h => h) (by rfl) (by assumption) ?_
                try simp only [Act.put, List.setIfInBounds_toArray, List.set_cons_zero, List.set_cons_succ]
                refine take_off (i := 23) rfl (by kernel_rfl) (by kernel_rfl) (by kernel_rfl) (fun _ _ _ h => h) (by rfl) (by assumption) ?_
                try simp only [Act.put, List.setIfInBounds_toArray, List.set_cons_zero, List.set_cons_succ]
                refine take_off (i := 24) rfl (by kernel_rfl) (by kernel_rfl) (by kernel_rfl) (fun _ _ _ h => h) (by rfl) (by assumption) ?_
                try simp only [Act.put, List.setIfInBounds_toArray, List.set_cons_zero, List.set_cons_succ]
                refine take_off (i := 25) rfl (by kernel_rfl) (by kernel_rfl) (by kernel_rfl) (fun _ _ _ h => h) (by rfl) (by assumption) ?_
                try simp only [Act.put, List.setIfInBounds_toArray, List.set_cons_zero, List.set_cons_succ]
                refine take_on (i := 26) (v := ?v26e) rfl (by kernel_rfl) (by kernel_rfl) (by kernel_rfl) (fun _ _ _ h => h) (by rfl) ?hy26e (by assumption) ?_
                case hy26e => intro w hSw; (try dsimp only at hSw); go_simp <;> with_reducible rfl
                try simp only [Act.put, List.setIfInBounds_toArray, List.set_cons_zero, List.set_cons_succ]
                refine wpAnyH_done (by kernel_rfl) ?_ _
                obtain ⟨_, _, _, _, h5⟩ := ‹_ ∧ _ ∧ _ ∧ _ ∧ Below w2.heap.size w2 _›
                go_wp2_with fail
                go_ret
                exact ⟨ret_bool (by rw [← HRR.out, rcheckSB_no HZ.out k (by rw [← HLL.out]; exact hlt) (rRow_pair L s k i hik (by rw [HP.out]; rfl))]), hbw.trans ((hb4.trans (h5.mono hb4.size)).mono hbw.size)⟩
          · obtain rfl : i = k := by omega
            go_wp2_with fail
            go_roundw
            case rel =>
              refine ⟨i + 1, by omega, by go_num, Lib.hid fun j hj => ?_, hb3⟩
              by_cases hji : j < i
              · exact HOK.out j hji
              · obtain rfl : j = i := by omega
                exact rRow_yes L s j (by rw [HH.out]; rfl) HPV.out HPK.out
            case measure => simp [intOf]; omega
    · obtain rfl : k = len2 := by omega
      go_wp2_with fail
      go_ret
      exact ⟨ret_bool (by rw [← HRR.out, rcheckSB_yes HZ.out (by rw [← HLL.out]; exact HOK.out)]), hbw.trans (hb.mono hbw.size)⟩
end Go.Proofs.Ytahdlbckcddeeaa
