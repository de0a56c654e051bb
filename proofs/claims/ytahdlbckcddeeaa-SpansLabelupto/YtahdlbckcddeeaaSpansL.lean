/- WALK OF THE STATEMENT SpansShifted. -/
import Derived.Test.YtahdlbckcddeeaaSpansK
namespace Go.Proofs.Ytahdlbckcddeeaa
open Go.RowKit
set_option linter.unusedVariables false
def shiftS (by' : Int) (x : Int × Int) : Int × Int := (x.1 * 2 + by', x.2 * 2 + by')
def fineS (x : Int × Int) : Prop := 0 ≤ x.1 ∧ x.1 ≤ 1152921504606846976 ∧ 0 ≤ x.2 ∧ x.2 ≤ 1152921504606846976
theorem shift_at (s : List (Int × Int)) (n : Int) (k : Nat) (h : k < s.length) : (s.map (shiftS n)).getD k default = shiftS n (s.getD k default) := by
  simp [List.getD_eq_getElem?_getD, h]
theorem shift_in (n : Int) (x y : Int × Int) : inB (shiftS n x) (shiftS n y) = inB x y := by
  unfold inB shiftS
  rw [Bool.eq_iff_iff]
  simp only [decide_eq_true_eq]
  omega
theorem shift_ahead (n : Int) (x y : Int × Int) : aheadB (shiftS n x) (shiftS n y) = aheadB x y := by
  unfold aheadB shiftS
  rw [Bool.eq_iff_iff]
  simp only [decide_eq_true_eq]
  omega
theorem shift_head (s : List (Int × Int)) (n : Int) (hn : 0 ≤ n ∧ n ≤ 1048576) (k : Nat) (h : k < s.length) (hf : fineS (s.getD k default)) : headOk (s.map (shiftS n)) k = headOk s k := by
  unfold headOk
  rw [shift_at s n k h]
  obtain ⟨f1, f2, f3, f4⟩ := hf
  generalize s.getD k default = x at *
  unfold insideB shiftS
  rw [Bool.eq_iff_iff]
  simp only [Bool.and_eq_true, decide_eq_true_eq]
  omega
theorem shift_pair (s : List (Int × Int)) (n : Int) (k i : Nat) (h : k < s.length) (hi : i < s.length) : pairOk (s.map (shiftS n)) k i = pairOk s k i := by
  unfold pairOk
  rw [shift_at s n k h, shift_at s n i hi, shift_in, shift_ahead]
  congr 1
  unfold shiftS
  rw [Bool.eq_iff_iff]
  simp only [decide_eq_true_eq]
  omega
theorem shift_ok (s : List (Int × Int)) (n : Int) (hn : 0 ≤ n ∧ n ≤ 1048576) (k : Nat) (h : k < s.length) (hf : fineS (s.getD k default)) : refOk (s.map (shiftS n)) k = refOk s k := by
  unfold refOk
  rw [shift_head s n hn k h hf]
  congr 1
  rw [Bool.eq_iff_iff, List.all_eq_true, List.all_eq_true]
  constructor
  · intro ha i hi
    have := ha i hi
    rw [List.mem_range] at hi
    rw [shift_pair s n k i h (by omega)] at this
    exact this
  · intro ha i hi
    have := ha i hi
    rw [List.mem_range] at hi
    rw [shift_pair s n k i h (by omega)]
    exact this
theorem shift_cnt (s : List (Int × Int)) (n : Int) (k : Nat) (h : k < s.length) : cntTo (s.map (shiftS n)) k k = cntTo s k k := by
  unfold cntTo
  congr 1
  refine List.filter_congr fun j hj => ?_
  rw [List.mem_range] at hj
  rw [shift_at s n k h, shift_at s n j (by omega), shift_in]
theorem shift_levels (s : List (Int × Int)) (n : Int) (hn : 0 ≤ n ∧ n ≤ 1048576) (hf : ∀ k, k < s.length → fineS (s.getD k default)) : refLevelsP (s.map (shiftS n)) = refLevelsP s := by
  unfold refLevelsP
  rw [List.length_map]
  have e1 : (List.range s.length).all (refOk (s.map (shiftS n))) = (List.range s.length).all (refOk s) := by
    rw [Bool.eq_iff_iff, List.all_eq_true, List.all_eq_true]
    constructor
    · intro ha i hi
      have := ha i hi
      rw [List.mem_range] at hi
      rw [shift_ok s n hn i hi (hf i hi)] at this
      exact this
    · intro ha i hi
      have := ha i hi
      rw [List.mem_range] at hi
      rw [shift_ok s n hn i hi (hf i hi)]
      exact this
  rw [e1]
  split
  · congr 1
    refine List.map_congr_left fun k hk => ?_
    rw [List.mem_range] at hk
    rw [shift_cnt s n k hk]
  · rfl
theorem infoRspn : (Try.prog.info? 42).map (fun i => (i.zero, i.size, i.bytes)) = some (some (.agg #[.int .i64 0, .int .i64 0]), 2, 16) := by kernel_rfl
theorem own_rspans {w : World} {base : Nat} {v : Value} {s : List (Int × Int)} (h : OwnS w base 42 2 v s.length (spnCells s)) : ∃ a cap, v = .slice a s.length cap ∧ SpansSl w a s.length s := by
  obtain ⟨a, cap, rfl⟩ := h.len
  refine ⟨a, cap, rfl, rfl, fun h0 => ?_⟩
  obtain ⟨g, cp, hv, _⟩ := h.shape h0
  cases hv
  refine ⟨g, 0, rfl, fun k hk => ?_⟩
  have h1 := h.cellAt (k * 2) (by omega)
  have h2 := h.cellAt (k * 2 + 1) (by omega)
  obtain ⟨e1, e2⟩ := spnCells_at s k hk
  rw [e1] at h1
  rw [e2] at h2
  rw [Nat.zero_add]
  exact ⟨h1, h2⟩
theorem map_take_succ (s : List (Int × Int)) (n : Int) (k : Nat) (h : k < s.length) : (s.take (k + 1)).map (shiftS n) = (s.take k).map (shiftS n) ++ [shiftS n (s.getD k default)] := by
  rw [List.take_add_one, List.map_append]
  congr 1
  simp [List.getD_eq_getElem?_getD, h]
/-- What stands behind the loop. -/
def ShiftPost (w : World) (e : Ending) (w' : World) : Prop := e = .returned (.bool true) ∧ Below w.heap.size w w'
set_option maxRecDepth 100000 in
set_option maxHeartbeats 2000000 in
theorem spansShifted_any (a : Option Addr) (len cap : Nat) (s : List (Int × Int)) (n : Int) (w : World) (h : SpansSl w a len s) : Calls Try.prog 9 #[.slice a len cap, .int .i64 n] w fun e w' => e = .returned (.bool true) ∧ Below w.heap.size w w' := by
  by_cases hn0 : n < 0
  · clear h
    go_enter Try.func9, Try.ntmps9
    go_wp2_with fail
    refine (alive_any _).mono ?_
    rintro e w4 ⟨rfl, hb4⟩
    go_wp2_with fail
    go_ret
    exact ⟨rfl, hb4⟩
  by_cases hn1 : 1048576 < n
  · clear h
    go_enter Try.func9, Try.ntmps9
    go_wp2_with fail
    refine (alive_any _).mono ?_
    rintro e w4 ⟨rfl, hb4⟩
    go_wp2_with fail
    go_ret
    exact ⟨rfl, hb4⟩
  by_cases hlen : 300 < len
  · clear h
    go_enter Try.func9, Try.ntmps9
    go_wp2_with fail
    refine (alive_any _).mono ?_
    rintro e w4 ⟨rfl, hb4⟩
    go_wp2_with fail
    go_ret
    exact ⟨rfl, hb4⟩
  obtain ⟨k0, hk1, hk2, hk3, hk4⟩ := info_parts infoRspn
  have HS := Lib.hid h
  have HL := Lib.hid h.1
  clear h
  go_enter Try.func9, Try.ntmps9
  go_wp2_with fail
  go_loopw [5, 26] (fun v i wr => ∃ (k : Nat), k ≤ len ∧ i = .int .i64 k ∧ OwnS wr w.heap.size 42 2 v k (spnCells ((s.take k).map (shiftS n))) ∧ Hid (∀ j, j < k → fineS (s.getD j default)) ∧ Below w.heap.size w wr) (fun _ i _ => len - (intOf i).toNat)
  case atStart => exact ⟨0, by omega, rfl, OwnS.nil _ _ _ _, Lib.hid (by omega), Below.refl _ _⟩
  case round =>
    obtain ⟨k, hk, rfl, hov, HF, hb⟩ := hrel
    by_cases hlt : k < len
    · obtain ⟨b, off, rfl, hi⟩ := HS.out.2 (by omega)
      obtain ⟨x, hx⟩ : ∃ x, x = s.getD k default := ⟨_, rfl⟩
      have hc := (hi.below hb) k (by rw [← HL.out]; exact hlt)
      rw [← hx] at hc
      obtain ⟨c1, c2⟩ := hc
      have hblr : b < wr.heap.size := block_lt_of_cell c1
      have HX := Lib.hid hx
      clear hx hi
      obtain ⟨x1, x2⟩ := x
      by_cases b1 : x1 < 0
      · go_wp2_with fail
        refine (alive_any _).mono ?_
        rintro e w4 ⟨rfl, hb4⟩
        go_wp2_with fail
        go_ret
        exact ⟨rfl, (hb.alloc hb.size _).trans (hb4.mono (by have := hb.size; simp; omega))⟩
      by_cases b2 : 1152921504606846976 < x1
      · go_wp2_with fail
        refine (alive_any _).mono ?_
        rintro e w4 ⟨rfl, hb4⟩
        go_wp2_with fail
        go_ret
        exact ⟨rfl, (hb.alloc hb.size _).trans (hb4.mono (by have := hb.size; simp; omega))⟩
      by_cases b3 : x2 < 0
      · go_wp2_with fail
        refine (alive_any _).mono ?_
        rintro e w4 ⟨rfl, hb4⟩
        go_wp2_with fail
        go_ret
        exact ⟨rfl, (hb.alloc hb.size _).trans (hb4.mono (by have := hb.size; simp; omega))⟩
      by_cases b4 : 1152921504606846976 < x2
      · go_wp2_with fail
        refine (alive_any _).mono ?_
        rintro e w4 ⟨rfl, hb4⟩
        go_wp2_with fail
        go_ret
        exact ⟨rfl, (hb.alloc hb.size _).trans (hb4.mono (by have := hb.size; simp; omega))⟩
      go_wp2_with (at_builtin; refine wpList_append_ownS _ rfl _ _ 23 rfl w.heap.size 42 k0 (.agg #[.int .i64 0, .int .i64 0]) 2 16 Try.underlying23 hk1 hk2 hk3 hk4 rfl (by decide) _ _ _ rfl ((hov.alloc _).alloc _) ⟨wr.heap.size + 1, 0, none⟩ 1 1 [.int .i64 (x1 * 2 + n), .int .i64 (x2 * 2 + n)] rfl rfl ?c1 ?c2 ?c3 ?c4 ?c5 ?_)
      case c2 => exact ⟨rfl, rfl⟩
      case c3 => unfold maxLen; omega
      case c4 => omega
      case c5 => have := hb.size; simp; omega
      intro v2 wb hown2 hgrow2
      have hbb : Below w.heap.size w wb := below_grown ((hb.alloc hb.size _).alloc (by have := hb.size; simp; omega) _) ((hov.alloc _).alloc _) hgrow2 (by have := hb.size; simp; omega) (Nat.le_refl _)
      clear hgrow2 hov
      go_wp2_with fail
      go_roundw
      case rel =>
        refine ⟨k + 1, by omega, by go_num, ?_, Lib.hid fun j hj => ?_, hbb⟩
        · rw [map_take_succ s n k (by rw [← HL.out]; exact hlt), spnCells_append, ← HX.out, List.map_take]
          exact hown2
        · by_cases hjk : j < k
          · exact HF.out j hjk
          · obtain rfl : j = k := by omega
            rw [← HX.out]
            exact ⟨by show 0 ≤ x1; omega, by show x1 ≤ _; omega, by show 0 ≤ x2; omega, by show x2 ≤ _; omega⟩
      case measure => simp [intOf]; omega
    · obtain rfl : k = len := by omega
      have hov' : OwnS wr w.heap.size 42 2 u5 (s.map (shiftS n)).length (spnCells (s.map (shiftS n))) := by
        have e : s.take k = s := by rw [HL.out, List.take_length]
        rw [e] at hov
        rw [List.length_map, ← HL.out]
        exact hov
      obtain ⟨am, cm, rfl, hsm⟩ := own_rspans hov'
      have hml : (s.map (shiftS n)).length = k := by rw [List.length_map, HL.out]
      have HE := Lib.hid (shift_levels s n (by omega) (by rw [← HL.out]; exact HF.out))
      generalize s.map (shiftS n) = sm at *
      have HSM := Lib.hid hsm
      have HML := Lib.hid hml
      clear hov hov' hsm HF hml
      go_wp2_with fail
      refine (own_any a k cap s (by omega) _ (HS.out.below hb)).mono ?_
      rintro e w1 ⟨a1, cap1, rfl, hs1, hb1⟩
      have HS1 := Lib.hid hs1
      clear hs1
      go_wp2_with fail
      refine (levels_any a1 s.length cap1 s (by rw [← HL.out]; omega) _ HS1.out).mono ?_
      intro e w2 hp
      obtain ⟨v2, rfl, ho2, hb2⟩ := levels_pair hp
      clear hp HS1
      have hb12 := hb1.trans (hb2.mono hb1.size)
      go_wp2_with fail
      refine (own_any am sm.length cm sm (by rw [HML.out]; omega) _ (HSM.out.below hb12)).mono ?_
      rintro e w3 ⟨a3, cap3, rfl, hs3, hb3⟩
      have HS3 := Lib.hid hs3
      clear hs3
      go_wp2_with fail
      have hlv := levels_any a3 sm.length cap3 sm (by rw [HML.out]; omega) _ HS3.out
      rw [HE.out] at hlv
      refine hlv.mono ?_
      intro e w4 hp
      obtain ⟨v4, rfl, ho4, hb4⟩ := levels_pair hp
      clear hp hlv HS3
      generalize hq : (refLevelsP s).isSome = q
      have HQ := Lib.hid hq
      clear hq
      have hb34 := hb3.trans (hb4.mono hb3.size)
      go_wp2_with fail
      refine (alive_any _).mono ?_
      rintro e w5 ⟨rfl, hb5⟩
      cases q
      all_goals (
        go_wp2_with fail
        refine (ints_any _ _ v2 v4 _ _ (Nat.le_trans refLevels_len (by rw [← HL.out]; omega)) _ ((ho2.below hb34).below hb5) (ho4.below hb5)).mono ?_
        rintro e w6 ⟨rfl, hb6⟩
        rw [beq_self_eq_true]
        go_wp2_with fail
        go_ret
        refine ⟨rfl, ?_⟩
        have g1 := hb.trans (hb12.mono hb.size)
        have g2 := g1.trans (hb34.mono g1.size)
        have g3 := g2.trans (hb5.mono g2.size)
        exact g3.trans (hb6.mono g3.size))
end Go.Proofs.Ytahdlbckcddeeaa
