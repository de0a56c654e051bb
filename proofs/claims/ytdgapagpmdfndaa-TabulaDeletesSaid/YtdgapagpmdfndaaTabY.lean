/- LAYER 13 (tabula): the document's Delete, Rank, At, Get, Back. -/
import Derived.Test.YtdgapagpmdfndaaTabX
namespace Go.Proofs.Ytdgapagpmdfndaa
open Go.RowKit
set_option linter.unusedVariables false
theorem DocAt.cells {w : World} {F : Nat → Prop} {a : Option Addr} {n cap : Nat} {l : List Row} (h : DocAt w F (.slice a n cap) l) : n = l.length ∧ (0 < l.length → ∃ b off, a = some ⟨b, off, none⟩ ∧ b < w.heap.size ∧ ¬ F b ∧ ∀ i, i < l.length → w.cell? ⟨b, off + i * 2, none⟩ = some (.int .i64 (l.getD i default).1) ∧ w.cell? ⟨b, off + i * 2 + 1, none⟩ = some (.int .i64 (l.getD i default).2)) := by
  obtain ⟨a', cap', hv, hc⟩ := h.val
  cases hv
  exact ⟨rfl, hc⟩
theorem delL_snoc (a : List Row) (x : Row) (key : Int) : delL (a ++ [x]) key = if x.1 = key then delL a key else delL a key ++ [x] := by
  unfold delL
  rw [List.filter_append]
  by_cases h : x.1 = key
  · rw [if_pos h]; simp [h]
  · rw [if_neg h]; simp [h]
theorem getL_none {l : List Row} {key : Int} (h : getL l key = none) : ∀ x ∈ l, x.1 ≠ key := fun x hx e => by
  unfold getL at h
  rw [Option.map_eq_none_iff, List.find?_eq_none] at h
  exact h x hx (by simpa using e)
theorem delL_less {l : List Row} {key : Int} : (delL l key).length < l.length ↔ (getL l key).isSome = true := by
  constructor
  · intro h
    cases hg : getL l key with
    | some v => rfl
    | none =>
      have := getL_none hg
      unfold delL at h
      rw [filter_all fun x hx => by simpa using this x hx] at h
      omega
  · intro h
    unfold getL at h
    obtain ⟨y, hy⟩ := Option.isSome_iff_exists.1 h
    obtain ⟨x, hx, _⟩ := Option.map_eq_some_iff.1 hy
    have h1 := List.mem_of_find?_eq_some hx
    have h2 := List.find?_some hx
    refine List.length_filter_lt_length_iff_exists.2 ⟨x, h1, ?_⟩
    simpa using h2
section
attribute [local go_sem ↓] append_eq
set_option maxRecDepth 100000 in
set_option maxHeartbeats 2000000 in
theorem ddel_any {w : World} {F : Nat → Prop} {lv : Value} {l : List Row} (hd : DocAt w F lv l) (hs : Sorted l) (hl : l.length ≤ 900000) (key : Int) :
    Calls Try.prog 43 #[lv, .int .i64 key] w fun e w' => ∃ lv', e = .returned (.tuple #[lv', .int .i64 ((getL l key).getD 0), .bool (getL l key).isSome]) ∧ OwnS w' w.heap.size 46 2 lv' (delL l key).length (rowCells (delL l key)) ∧ Below w.heap.size w w' := by
  obtain ⟨a, cap, rfl, hcell⟩ := hd.val
  have HC := Lib.hid hcell
  have HS := Lib.hid hs
  obtain ⟨n, hnn⟩ : ∃ n, n = l.length := ⟨_, rfl⟩
  have HN := Lib.hid hnn
  obtain ⟨r1, hr1⟩ : ∃ r, r = (getL l key).getD 0 := ⟨_, rfl⟩
  obtain ⟨r2, hr2⟩ : ∃ r, r = (getL l key).isSome := ⟨_, rfl⟩
  have HR := Lib.hid (And.intro hr1 hr2)
  rw [← hr1, ← hr2, ← hnn]
  rw [← hnn] at hl
  clear hcell hs hd hr1 hr2 hnn
  go_enter Try.func43, Try.ntmps43
  go_wp2_with fail
  go_loopw [7, 8, 9] (fun ov wv nv wr => ∃ (i : Nat) (was : Int) (out : List Row) (oa : Option Addr) (oc : Nat), i ≤ n ∧ ov = .slice oa out.length oc ∧ wv = .int .i64 was ∧ nv = .int .i64 (i : Int) ∧ out.length ≤ i ∧
    Hid (out = delL (l.take i) key ∧ was = (getL (l.take i) key).getD 0 ∧ OwnS wr w.heap.size 46 2 (.slice oa out.length oc) out.length (rowCells out) ∧ Below w.heap.size w wr)) (fun _ _ nv _ => n - (intOf nv).toNat)
  case atStart => exact ⟨0, 0, [], none, 0, Nat.zero_le _, rfl, rfl, rfl, Nat.le_refl _, Lib.hid ⟨by simp [delL], by simp [getL], OwnS.nil _ _ _ _, Below.refl _ _⟩⟩
  case round =>
    obtain ⟨i, was, out, oa, oc, hi, rfl, rfl, rfl, hol, HP⟩ := hrel
    by_cases hin : i < n
    · obtain ⟨b, off, hab, hblt, _, hcx⟩ := HC.out (by rw [← HN.out]; omega)
      subst hab
      have hil : i < l.length := by rw [← HN.out]; exact hin
      obtain ⟨hout, hwas, hown, hbel⟩ := HP.out
      have x1 := (hbel.cell (p := ⟨b, off + i * 2, none⟩) (by exact hblt)).trans (hcx i hil).1
      have x2 := (hbel.cell (p := ⟨b, off + i * 2 + 1, none⟩) (by exact hblt)).trans (hcx i hil).2
      obtain ⟨e, hb⟩ := sorted_take HS.out hil
      obtain ⟨x, hx⟩ : ∃ x, x = l.getD i default := ⟨_, rfl⟩
      rw [← hx] at x1 x2 e hb
      have z1 : (i : Int) < (n : Int) := by omega
      have z2 : (0 : Int) ≤ (i : Int) := by omega
      by_cases hk : x.1 = key
      · have HP2 : Hid (out = delL (l.take (i + 1)) key ∧ x.2 = (getL (l.take (i + 1)) key).getD 0 ∧ OwnS wr w.heap.size 46 2 (.slice oa out.length oc) out.length (rowCells out) ∧ Below w.heap.size w wr) :=
          Lib.hid ⟨by rw [e, delL_snoc, if_pos hk]; exact hout, by rw [e, getL_snoc_eq hk hb]; rfl, hown, hbel⟩
        rw [hk] at x1
        clear hout hwas hown hbel hcx hx HP e hb
        go_wp2_with fail
        go_roundw
        case rel => exact ⟨i + 1, x.2, out, oa, oc, by omega, rfl, rfl, by go_num, by omega, HP2⟩
        case measure => simp [intOf]; omega
      · obtain ⟨a1, c1, W1, hr1, ho1, hb1⟩ := push_row hown hbel.size (by omega) x
        have HP2 : Hid (out ++ [x] = delL (l.take (i + 1)) key ∧ was = (getL (l.take (i + 1)) key).getD 0 ∧ OwnS W1 w.heap.size 46 2 (.slice a1 (out ++ [x]).length c1) (out ++ [x]).length (rowCells (out ++ [x])) ∧ Below w.heap.size w W1) :=
          Lib.hid ⟨by rw [e, delL_snoc, if_neg hk, hout], by rw [e, getL_snoc_ne hk]; exact hwas, by simpa using ho1, hbel.trans hb1⟩
        clear hout hwas hown hbel hcx hx HP e hb ho1 hb1
        go_wp2_with fail
        go_roundw
        case rel => exact ⟨i + 1, was, out ++ [x], a1, c1, by omega, by simp, rfl, by go_num, by simp; omega, HP2⟩
        case measure => simp [intOf]; omega
    · obtain rfl : i = n := by omega
      obtain ⟨hout, hwas, hown, hbel⟩ := HP.out
      rw [HN.out, List.take_length] at hout hwas
      rw [← HR.out.1] at hwas
      subst hwas
      have hlt : decide (out.length < i) = r2 := by
        rw [HR.out.2, hout, HN.out]
        rw [Bool.eq_iff_iff, decide_eq_true_eq]
        exact delL_less
      have HLT := Lib.hid hlt
      have HE := Lib.hid (And.intro hout (And.intro hown hbel))
      clear hout hown hbel HP hlt
      go_wp2_with fail
      go_ret3
      refine ⟨_, by rw [← HLT.out]; rfl, ?_, HE.out.2.2⟩
      rw [← HE.out.1]; exact HE.out.2.1
end
set_option maxRecDepth 100000 in
set_option maxHeartbeats 1000000 in
theorem drank_any {w : World} {F : Nat → Prop} {lv : Value} {l : List Row} (hd : DocAt w F lv l) (hl : l.length ≤ 900000) (key : Int) :
    Calls Try.prog 27 #[lv, .int .i64 key] w fun e w' => e = .returned (.int .i64 (rankL l key : Nat)) ∧ w' = w := by
  obtain ⟨a, cap, rfl, hcell⟩ := hd.val
  have HC := Lib.hid hcell
  obtain ⟨n, hnn⟩ : ∃ n, n = l.length := ⟨_, rfl⟩
  have HN := Lib.hid hnn
  obtain ⟨r, hr⟩ : ∃ r, r = rankL l key := ⟨_, rfl⟩
  have HR := Lib.hid hr
  rw [← hr, ← hnn]
  rw [← hnn] at hl
  clear hcell hd hr hnn
  go_enter Try.func27, Try.ntmps27
  go_wp2_with fail
  go_loopw [5, 6] (fun mv nv wr => ∃ i m : Nat, i ≤ n ∧ m ≤ i ∧ mv = .int .i64 (m : Int) ∧ nv = .int .i64 (i : Int) ∧ Hid (m = rankL (l.take i) key) ∧ w = wr) (fun _ nv _ => n - (intOf nv).toNat)
  case atStart => exact ⟨0, 0, Nat.zero_le _, Nat.le_refl _, rfl, rfl, Lib.hid (by simp [rankL]), rfl⟩
  case round =>
    obtain ⟨i, m, hi, hm, rfl, rfl, HM, rfl⟩ := hrel
    by_cases hin : i < n
    · obtain ⟨b, off, hab, hblt, _, hcx⟩ := HC.out (by rw [← HN.out]; omega)
      subst hab
      have hil : i < l.length := by rw [← HN.out]; exact hin
      have x1 := (hcx i hil).1
      have e := take_snoc l i hil
      have hmm := HM.out
      have z1 : (i : Int) < (n : Int) := by omega
      have z2 : (0 : Int) ≤ (i : Int) := by omega
      generalize l.getD i default = x at *
      by_cases hk : x.1 < key
      · have HM2 : Hid (m + 1 = rankL (l.take (i + 1)) key) := Lib.hid (by rw [e, rankL_append, ← hmm]; simp [rankL, hk])
        clear hcx e hmm HM
        go_wp2_with fail
        go_roundw
        case rel => exact ⟨i + 1, m + 1, by omega, by omega, by go_num, by go_num, HM2, trivial⟩
        case measure => simp [intOf]; omega
      · have HM2 : Hid (m = rankL (l.take (i + 1)) key) := Lib.hid (by rw [e, rankL_append, ← hmm]; simp [rankL, hk])
        clear hcx e hmm HM
        go_wp2_with fail
        go_roundw
        case rel => exact ⟨i + 1, m, by omega, by omega, rfl, by go_num, HM2, trivial⟩
        case measure => simp [intOf]; omega
    · obtain rfl : i = n := by omega
      have hmr : m = r := by rw [HM.out, HR.out, HN.out, List.take_length]
      subst hmr
      go_wp2_with fail
      go_ret
      exact ⟨rfl, by first | rfl | trivial⟩
set_option maxRecDepth 100000 in
set_option maxHeartbeats 1000000 in
theorem dat_any {w : World} {F : Nat → Prop} {lv : Value} {l : List Row} (hd : DocAt w F lv l) (n : Int) :
    Calls Try.prog 28 #[lv, .int .i64 n] w fun e w' => e = .returned (atR (atV l n)) ∧ Below w.heap.size w w' := by
  obtain ⟨a, cap, rfl, hcell⟩ := hd.val
  by_cases h0 : n < 0
  · rw [atV_out (by omega)]
    clear hcell hd
    have hd0 : decide (n < 0) = true := by simpa using h0
    go_enter Try.func28, Try.ntmps28
    go_wp2_with fail
    go_ret3
    exact ⟨rfl, Below.refl _ _⟩
  by_cases hn : (l.length : Int) ≤ n
  · rw [atV_out (by omega)]
    clear hcell hd
    go_enter Try.func28, Try.ntmps28
    go_wp2_with fail
    go_ret3
    exact ⟨rfl, Below.refl _ _⟩
  obtain ⟨m0, rfl⟩ : ∃ m : Nat, n = (m : Int) := ⟨n.toNat, by omega⟩
  have hm0 : m0 < l.length := by omega
  rw [atV_in hm0]
  obtain ⟨b, off, rfl, _, _, hcx⟩ := hcell (by omega)
  obtain ⟨x1, x2⟩ := hcx m0 hm0
  generalize l.getD m0 default = x at *
  generalize l.length = n at *
  have z1 : (m0 : Int) < (n : Int) := by omega
  have z2 : (0 : Int) ≤ (m0 : Int) := by omega
  clear hcx hd hcell
  go_enter Try.func28, Try.ntmps28
  go_wp2_with fail
  go_quiet (fail)
  go_wp2_with fail
  go_ret3
  exact ⟨rfl, below_drewN (Below.refl _ _) _⟩
set_option maxRecDepth 100000 in
set_option maxHeartbeats 1000000 in
theorem dget_any {w : World} {F : Nat → Prop} {lv : Value} {l : List Row} (hd : DocAt w F lv l) (hs : Sorted l) (hl : l.length ≤ 900000) (key : Int) :
    Calls Try.prog 16 #[lv, .int .i64 key] w fun e w' => e = .returned (.tuple #[.int .i64 ((getL l key).getD 0), .bool (getL l key).isSome]) ∧ w' = w := by
  obtain ⟨a, cap, rfl, hcell⟩ := hd.val
  have HC := Lib.hid hcell
  have HS := Lib.hid hs
  obtain ⟨n, hnn⟩ : ∃ n, n = l.length := ⟨_, rfl⟩
  have HN := Lib.hid hnn
  obtain ⟨r, hr⟩ : ∃ r, r = getL l key := ⟨_, rfl⟩
  have HR := Lib.hid hr
  rw [← hr, ← hnn]
  rw [← hnn] at hl
  clear hcell hd hr hnn hs
  go_enter Try.func16, Try.ntmps16
  go_wp2_with fail
  go_loopw [6] (fun nv wr => ∃ i : Nat, i ≤ n ∧ nv = .int .i64 (i : Int) ∧ Hid (getL (l.take i) key = none) ∧ w = wr) (fun nv _ => n - (intOf nv).toNat)
  case atStart => exact ⟨0, Nat.zero_le _, rfl, Lib.hid (by simp [getL]), rfl⟩
  case round =>
    obtain ⟨i, hi, rfl, HM, rfl⟩ := hrel
    by_cases hin : i < n
    · obtain ⟨b, off, hab, hblt, _, hcx⟩ := HC.out (by rw [← HN.out]; omega)
      subst hab
      have hil : i < l.length := by rw [← HN.out]; exact hin
      obtain ⟨x1, x2⟩ := hcx i hil
      obtain ⟨e, hb⟩ := sorted_take HS.out hil
      have hsp : l = l.take i ++ l.getD i default :: l.drop (i + 1) := by
        have e : l.getD i default = l[i] := by simp [hil]
        rw [e, ← List.drop_eq_getElem_cons hil, List.take_append_drop]
      have z1 : (i : Int) < (n : Int) := by omega
      have z2 : (0 : Int) ≤ (i : Int) := by omega
      generalize l.getD i default = x at *
      by_cases hk : x.1 = key
      · have hr : r = some x.2 := by
          rw [HR.out, hsp]
          unfold getL
          rw [List.find?_append, find_none fun y hy => by have := hb y hy; simp; omega]
          simp [hk]
        subst hr
        rw [hk] at x1
        clear hcx e hb hsp HM
        go_wp2_with fail
        go_ret2
        exact ⟨rfl, by first | rfl | trivial⟩
      · have HM2 : Hid (getL (l.take (i + 1)) key = none) := Lib.hid (by rw [e, getL_snoc_ne hk]; exact HM.out)
        clear hcx e hb hsp HM
        go_wp2_with fail
        go_roundw
        case rel => exact ⟨i + 1, by omega, by go_num, HM2, trivial⟩
        case measure => simp [intOf]; omega
    · obtain rfl : i = n := by omega
      have hr : r = none := by
        have := HM.out
        rw [HN.out, List.take_length] at this
        rw [HR.out]; exact this
      subst hr
      go_wp2_with fail
      go_ret2
      exact ⟨rfl, by first | rfl | trivial⟩
end Go.Proofs.Ytdgapagpmdfndaa
