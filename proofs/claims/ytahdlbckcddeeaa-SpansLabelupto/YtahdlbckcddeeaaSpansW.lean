/- WALK OF LAYER 14 (spans): the document's Label. -/
import Derived.Test.YtahdlbckcddeeaaSpansPlain8
import Derived.Test.YtahdlbckcddeeaaSpansL
namespace Go.Proofs.Ytahdlbckcddeeaa
open Go.RowKit
set_option linter.unusedVariables false
def rl (L : List Item) (k : Nat) : List (Int × Int) := (List.range k).map (fun k => ((rFrom L k : Int) * gapI, (rTo L k : Int) * gapI))
theorem rl_succ (L : List Item) (k : Nat) : rl L (k + 1) = rl L k ++ [((rFrom L k : Int) * gapI, (rTo L k : Int) * gapI)] := by
  unfold rl; rw [List.range_succ, List.map_append]; rfl
theorem rl_len (L : List Item) (k : Nat) : (rl L k).length = k := by unfold rl; simp
def cA (L : List Item) (k n : Nat) : Nat := ((List.range n).filter (fun i => decide (endP L i ≤ k))).length
def cB (L : List Item) (k n : Nat) : Nat := ((List.range n).filter (fun i => decide (i < endP L k))).length
def condC (L : List Item) (k i : Nat) : Bool := decide (i ≠ k) && decide (endP L i ≤ endP L k) && (decide (k < i) || decide (endP L i ≤ k))
def cC (L : List Item) (k n : Nat) : Nat := ((List.range n).filter (condC L k)).length
theorem filt_succ (p : Nat → Bool) (n : Nat) : ((List.range (n + 1)).filter p).length = ((List.range n).filter p).length + (if p n = true then 1 else 0) := by
  rw [List.range_succ, List.filter_append, List.length_append]
  congr 1
  by_cases h : p n = true
  · rw [if_pos h, List.filter_cons_of_pos h]; rfl
  · rw [if_neg h, List.filter_cons_of_neg h]; rfl
theorem filt_le (p : Nat → Bool) (n : Nat) : ((List.range n).filter p).length ≤ n := by
  have := List.length_filter_le p (List.range n)
  rw [List.length_range] at this
  exact this
def LabelRPost (L : List Item) (w : World) (e : Ending) (w' : World) : Prop := ∃ v, e = .returned (.tuple #[v, .int .i64 0]) ∧ OwnS w' w.heap.size 42 2 v (rlabelP L).length (spnCells (rlabelP L)) ∧ Below w.heap.size w w'
set_option maxRecDepth 100000 in
theorem rlabel_no (a : Option Addr) (len cap : Nat) (L : List Item) (w : World) (hi : ItemsSl w a len L) (ht : TinyL L) (hz : (checkP L).2 ≠ 0) :
    Calls Try.prog 16 #[.slice a len cap] w fun e w' => e = .returned (.tuple #[.slice none 0 0, .int .i64 (checkP L).2]) ∧ Below w.heap.size w w' := by
  have HC := Lib.hid (rcheck_any a len cap L w hi ht)
  clear hi ht
  generalize hc1 : (checkP L).1 = c1 at HC
  generalize hc2 : (checkP L).2 = c2 at *
  clear hc1 hc2
  go_enter Try.func16, Try.ntmps16
  go_wp2_with fail
  refine HC.out.mono ?_
  rintro e w1 ⟨rfl, hb1⟩
  go_wp2_with fail
  go_ret2
  exact ⟨rfl, hb1⟩
set_option maxRecDepth 100000 in
set_option maxHeartbeats 8000000 in
theorem rlabel_yes (b off len cap : Nat) (L : List Item) (hl : len = L.length) (w : World) (hi : ItemsAt w b off L) (ht : TinyL L) (hz : (checkP L).2 = 0) :
    Calls Try.prog 16 #[.slice (some ⟨b, off, none⟩) len cap] w (LabelRPost L w) := by
  have hlen : len ≤ 1000 := by rw [hl]; exact check_few hz
  have HC := Lib.hid (rcheck_any (some ⟨b, off, none⟩) len cap L w ⟨hl, by omega, fun _ => ⟨b, off, rfl, hi⟩⟩ ht)
  have HI := Lib.hid hi
  have HL := Lib.hid hl
  have HEND : Hid (∀ w j, ItemsAt w b off L → j < len → Calls Try.prog 28 #[.slice (some ⟨b, off, none⟩) len cap, .int .i64 (j : Nat)] w fun e w' => e = .returned (.int .i64 (endP L j : Nat)) ∧ Below w.heap.size w w') := Lib.hid fun w j h hj =>
    (rend_any b off len cap L j hl (by omega) w h hj).mono fun e w' ⟨he, m, hm⟩ => ⟨he, by rw [hm]; exact below_drewN (Below.refl _ _) _⟩
  generalize hc1 : (checkP L).1 = c1 at HC
  rw [hz] at HC
  obtain ⟨k0, hk1, hk2, hk3, hk4⟩ := info_parts infoRspn
  clear hi hl ht hz hc1
  go_enter Try.func16, Try.ntmps16
  go_wp2_with fail
  refine HC.out.mono ?_
  rintro e w1 ⟨rfl, hbw⟩
  have HI1 := HI
  clear HC HI
  go_wp2_with fail
  go_loopw [6, 7] (fun u i wr => ∃ k : Nat, k ≤ len ∧ i = .int .i64 k ∧ OwnS wr w.heap.size 42 2 u k (spnCells (rl L k)) ∧ Below w.heap.size w wr) (fun _ i _ => len - (intOf i).toNat)
  case atStart => exact ⟨0, by omega, rfl, OwnS.nil _ _ _ _, hbw⟩
  case round =>
    obtain ⟨k, hk, rfl, hou, hb⟩ := hrel
    by_cases hlt : k < len
    · obtain ⟨wo, rfl⟩ : ∃ wo : World, wo = wr := ⟨_, rfl⟩
      obtain ⟨ua, uc, rfl⟩ := hou.len
      go_wp2_with fail
      go_loopw [8, 9] (fun f i wr => ∃ n : Nat, n ≤ k ∧ i = .int .i64 n ∧ f = .int .i64 ((1 + n + cA L k n : Nat) : Int) ∧ Below wo.heap.size wo wr) (fun _ i _ => k - (intOf i).toNat)
      case atStart => exact ⟨0, by omega, rfl, rfl, Below.refl _ _⟩
      case round =>
        obtain ⟨n, hn, rfl, rfl, hb2⟩ := hrel
        have hA := filt_le (fun i => decide (endP L i ≤ k)) n
        change cA L k n ≤ n at hA
        by_cases hnk : n < k
        · have hS : Hid (cA L k (n + 1) = cA L k n + (if decide (endP L n ≤ k) = true then 1 else 0)) := Lib.hid (filt_succ _ n)
          have hE := HEND.out wr n (HI1.out.below (hb.trans (hb2.mono hb.size))) (by omega)
          generalize endP L n = E at hS hE
          generalize cA L k n = A at *
          have HE := Lib.hid hE
          clear hE
          go_wp2_with fail
          refine HE.out.mono ?_
          rintro e w2 ⟨rfl, hb3⟩
          by_cases hEk : E ≤ k
          · go_wp2_with fail
            go_roundw
            case rel =>
              refine ⟨n + 1, by omega, by go_num, ?_, hb2.trans (hb3.mono hb2.size)⟩
              rw [hS.out, if_pos (decide_eq_true hEk)]
              go_num
            case measure => simp [intOf]; omega
          · go_wp2_with fail
            go_roundw
            case rel =>
              refine ⟨n + 1, by omega, by go_num, ?_, hb2.trans (hb3.mono hb2.size)⟩
              rw [hS.out, if_neg (by simpa using hEk)]
              go_num
            case measure => simp [intOf]; omega
        · obtain rfl : n = k := by omega
          have hF : Hid (rFrom L n = 1 + n + cA L n n) := Lib.hid rfl
          generalize cA L n n = A at *
          have HEk := Lib.hid (HEND.out wr n (HI1.out.below (hb.trans (hb2.mono hb.size))) hlt)
          obtain ⟨Ek, hEk⟩ : ∃ Ek, endP L n = Ek := ⟨_, rfl⟩
          rw [hEk] at HEk
          have HEKK := Lib.hid hEk
          clear hEk
          go_wp2_with fail
          refine HEk.out.mono ?_
          rintro e w3 ⟨rfl, hb3⟩
          have hb4 : Below wo.heap.size wo w3 := hb2.trans (hb3.mono hb2.size)
          clear hb2 hb3 HEk
          go_wp2_with fail
          go_loopw [11, 12] (fun f i wr => ∃ m : Nat, m ≤ len ∧ i = .int .i64 m ∧ f = .int .i64 ((1 + cB L n m + cC L n m : Nat) : Int) ∧ Below wo.heap.size wo wr) (fun _ i _ => len - (intOf i).toNat)
          case atStart => exact ⟨0, by omega, rfl, rfl, hb4⟩
          case round =>
            clear hb4
            obtain ⟨m, hm, rfl, rfl, hb5⟩ := hrel
            have hB := filt_le (fun i => decide (i < endP L n)) m
            have hC := filt_le (condC L n) m
            change cB L n m ≤ m at hB
            change cC L n m ≤ m at hC
            by_cases hml : m < len
            · have hSB : Hid (cB L n (m + 1) = cB L n m + (if decide (m < Ek) = true then 1 else 0)) := by rw [← HEKK.out]; exact Lib.hid (filt_succ _ m)
              have hSC : Hid (cC L n (m + 1) = cC L n m + (if (decide (m ≠ n) && decide (endP L m ≤ Ek) && (decide (n < m) || decide (endP L m ≤ n))) = true then 1 else 0)) := by rw [← HEKK.out]; exact Lib.hid (filt_succ _ m)
              have HEm : Hid (∀ w', Below wo.heap.size wo w' → Calls Try.prog 28 #[.slice (some ⟨b, off, none⟩) len cap, .int .i64 (m : Nat)] w' fun e w'' => e = .returned (.int .i64 (endP L m : Nat)) ∧ Below w'.heap.size w' w'') := Lib.hid fun w' hw' =>
                HEND.out w' m (HI1.out.below (hb.trans (hw'.mono hb.size))) hml
              generalize endP L m = Em at hSC HEm
              generalize cB L n m = B at *
              generalize cC L n m = C at *
              by_cases hBk : m < Ek
              · have HB : (if decide (m < Ek) = true then 1 else 0) = 1 := by rw [if_pos (by simpa using hBk)]
                have HHB := Lib.hid HB
                clear HB
                by_cases hmn : m = n
                · have hmn' : ((m : Int) != (n : Int)) = false := by simp; omega
                  have HMN := Lib.hid hmn
                  clear hmn
                  go_wp2_with fail
                  go_roundw
                  case rel =>
                    refine ⟨m + 1, by omega, by go_num, ?_, hb5⟩
                    have hc : (decide (m ≠ n) && decide (Em ≤ Ek) && (decide (n < m) || decide (Em ≤ n))) = false := by simp [HMN.out]
                    rw [hSB.out, hSC.out, HHB.out, hc]
                    go_num
                  case measure => simp [intOf]; omega
                have hmn' : ((m : Int) != (n : Int)) = true := by simp; omega
                have HMN := Lib.hid hmn
                clear hmn
                go_wp2_with fail
                refine (HEm.out _ hb5).mono ?_
                rintro e w4 ⟨rfl, hb6⟩
                have hb7 := hb5.trans (hb6.mono hb5.size)
                by_cases hEE : Em ≤ Ek
                case neg =>
                  go_wp2_with fail
                  go_roundw
                  case rel =>
                    refine ⟨m + 1, by omega, by go_num, ?_, hb7⟩
                    have hc : (decide (m ≠ n) && decide (Em ≤ Ek) && (decide (n < m) || decide (Em ≤ n))) = false := by simp [hEE]
                    rw [hSB.out, hSC.out, HHB.out, hc]
                    go_num
                  case measure => simp [intOf]; omega
                by_cases hnm : n < m
                · go_wp2_with fail
                  go_roundw
                  case rel =>
                    refine ⟨m + 1, by omega, by go_num, ?_, hb7⟩
                    have hc : (decide (m ≠ n) && decide (Em ≤ Ek) && (decide (n < m) || decide (Em ≤ n))) = true := by simp [HMN.out, hEE, hnm]
                    rw [hSB.out, hSC.out, HHB.out, hc]
                    go_num
                  case measure => simp [intOf]; omega
                go_wp2_with fail
                refine (HEm.out _ hb7).mono ?_
                rintro e w5 ⟨rfl, hb8⟩
                have hb9 := hb7.trans (hb8.mono hb7.size)
                by_cases hEn : Em ≤ n
                · go_wp2_with fail
                  go_roundw
                  case rel =>
                    refine ⟨m + 1, by omega, by go_num, ?_, hb9⟩
                    have hc : (decide (m ≠ n) && decide (Em ≤ Ek) && (decide (n < m) || decide (Em ≤ n))) = true := by simp [HMN.out, hEE, hEn]
                    rw [hSB.out, hSC.out, HHB.out, hc]
                    go_num
                  case measure => simp [intOf]; omega
                · go_wp2_with fail
                  go_roundw
                  case rel =>
                    refine ⟨m + 1, by omega, by go_num, ?_, hb9⟩
                    have hc : (decide (m ≠ n) && decide (Em ≤ Ek) && (decide (n < m) || decide (Em ≤ n))) = false := by simp [hEn]; omega
                    rw [hSB.out, hSC.out, HHB.out, hc]
                    go_num
                  case measure => simp [intOf]; omega
              · have HB : (if decide (m < Ek) = true then 1 else 0) = 0 := by rw [if_neg (by simpa using hBk)]
                have HHB := Lib.hid HB
                clear HB
                by_cases hmn : m = n
                · have hmn' : ((m : Int) != (n : Int)) = false := by simp; omega
                  have HMN := Lib.hid hmn
                  clear hmn
                  go_wp2_with fail
                  go_roundw
                  case rel =>
                    refine ⟨m + 1, by omega, by go_num, ?_, hb5⟩
                    have hc : (decide (m ≠ n) && decide (Em ≤ Ek) && (decide (n < m) || decide (Em ≤ n))) = false := by simp [HMN.out]
                    rw [hSB.out, hSC.out, HHB.out, hc]
                    go_num
                  case measure => simp [intOf]; omega
                have hmn' : ((m : Int) != (n : Int)) = true := by simp; omega
                have HMN := Lib.hid hmn
                clear hmn
                go_wp2_with fail
                refine (HEm.out _ hb5).mono ?_
                rintro e w4 ⟨rfl, hb6⟩
                have hb7 := hb5.trans (hb6.mono hb5.size)
                by_cases hEE : Em ≤ Ek
                case neg =>
                  go_wp2_with fail
                  go_roundw
                  case rel =>
                    refine ⟨m + 1, by omega, by go_num, ?_, hb7⟩
                    have hc : (decide (m ≠ n) && decide (Em ≤ Ek) && (decide (n < m) || decide (Em ≤ n))) = false := by simp [hEE]
                    rw [hSB.out, hSC.out, HHB.out, hc]
                    go_num
                  case measure => simp [intOf]; omega
                by_cases hnm : n < m
                · go_wp2_with fail
                  go_roundw
                  case rel =>
                    refine ⟨m + 1, by omega, by go_num, ?_, hb7⟩
                    have hc : (decide (m ≠ n) && decide (Em ≤ Ek) && (decide (n < m) || decide (Em ≤ n))) = true := by simp [HMN.out, hEE, hnm]
                    rw [hSB.out, hSC.out, HHB.out, hc]
                    go_num
                  case measure => simp [intOf]; omega
                go_wp2_with fail
                refine (HEm.out _ hb7).mono ?_
                rintro e w5 ⟨rfl, hb8⟩
                have hb9 := hb7.trans (hb8.mono hb7.size)
                by_cases hEn : Em ≤ n
                · go_wp2_with fail
                  go_roundw
                  case rel =>
                    refine ⟨m + 1, by omega, by go_num, ?_, hb9⟩
                    have hc : (decide (m ≠ n) && decide (Em ≤ Ek) && (decide (n < m) || decide (Em ≤ n))) = true := by simp [HMN.out, hEE, hEn]
                    rw [hSB.out, hSC.out, HHB.out, hc]
                    go_num
                  case measure => simp [intOf]; omega
                · go_wp2_with fail
                  go_roundw
                  case rel =>
                    refine ⟨m + 1, by omega, by go_num, ?_, hb9⟩
                    have hc : (decide (m ≠ n) && decide (Em ≤ Ek) && (decide (n < m) || decide (Em ≤ n))) = false := by simp [hEn]; omega
                    rw [hSB.out, hSC.out, HHB.out, hc]
                    go_num
                  case measure => simp [intOf]; omega
            · obtain rfl : m = len := by omega
              have hT : Hid (rTo L n = 1 + cB L n m + cC L n m) := by unfold rTo cB cC; rw [HL.out]; exact Lib.hid rfl
              generalize cB L n m = B at *
              generalize cC L n m = C at *
              have hou2 := hou.below hb5
              have hsz5 := hb5.size
              have hszo := hb.size
              have hszw := hbw.size
              go_wp2_with (at_builtin; refine wpList_append_ownS _ rfl _ _ 23 rfl w.heap.size 42 k0 (.agg #[.int .i64 0, .int .i64 0]) 2 16 Try.underlying23 hk1 hk2 hk3 hk4 rfl (by decide) _ _ _ rfl (hou2.alloc _) ⟨wr.heap.size, 0, none⟩ 1 1 [.int .i64 (((1 + n + A : Nat) : Int) * 1099511627776), .int .i64 (((1 + B + C : Nat) : Int) * 1099511627776)] rfl rfl ?c1 ?c2 ?c3 ?c4 ?c5 ?_)
              case c1 => intro jj u h; exact spn_new _ _ _ _ jj u h
              case c2 => intro u hu; simp at hu; rcases hu with rfl | rfl <;> rfl
              case c3 => unfold maxLen; omega
              case c4 => omega
              case c5 => first | omega | (simp; omega)
              intro v1 wa hown1 hgrow1
              have hwr : Below w.heap.size w wr := hb.trans (hb5.mono hb.size)
              have hba : Below w.heap.size w wa := below_grown (hwr.alloc hwr.size _) (hou2.alloc _) hgrow1 (by have := hwr.size; simp; omega) (Nat.le_refl _)
              have hown2 : OwnS wa w.heap.size 42 2 v1 (n + 1) (spnCells (rl L (n + 1))) := by
                rw [rl_succ, spnCells_append, hF.out, hT.out]
                exact hown1
              clear hown1 hgrow1 hou2
              go_wp2_with fail
              go_roundw
              case rel => exact ⟨n + 1, by omega, by go_num, hown2, hba⟩
              case measure => simp [intOf]; omega
    · obtain rfl : k = len := by omega
      go_wp2_with fail
      go_ret2
      refine ⟨_, rfl, ?_, hb⟩
      have e : rlabelP L = rl L k := by rw [HL.out]; rfl
      rw [e, rl_len]
      exact hou
end Go.Proofs.Ytahdlbckcddeeaa
