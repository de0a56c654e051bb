/- LAYER 13 (tabula): the document's Back, Rises. -/
import Derived.Test.YtdgapagpmdfndaaTabZa
import Derived.Deep.QuietTactic
import Derived.BigQuiet
import Derived.IntWalk
namespace Go.Proofs.Ytdgapagpmdfndaa
open Go.RowKit
set_option linter.unusedVariables false
/-- How many rows are not above a key. -/
def leL (l : List Row) (key : Int) : Nat := (l.filter (fun x => decide (x.1 ≤ key))).length
theorem leL_append (a b : List Row) (key : Int) : leL (a ++ b) key = leL a key + leL b key := by simp [leL]
theorem leL_all {l : List Row} {key : Int} (h : ∀ x ∈ l, x.1 ≤ key) : leL l key = l.length := by
  unfold leL; rw [filter_all fun x hx => by simpa using h x hx]
theorem leL_none {l : List Row} {key : Int} (h : ∀ x ∈ l, key < x.1) : leL l key = 0 := by
  unfold leL; rw [filter_none fun x hx => by have := h x hx; simp; omega]; rfl
theorem leL_le (l : List Row) (key : Int) : leL l key ≤ l.length := List.length_filter_le _ _
theorem back_le {l : List Row} (hs : Sorted l) (key : Int) : atV l ((leL l key : Nat) - 1) = backV l key := by
  have hc := exists_cut' hs key
  obtain ⟨h1, h2⟩ := cut_split hs hc
  have ht := hc.1
  have hsp : leL l key = leL (l.take (rankL l key)) key + leL (l.drop (rankL l key)) key := by rw [← leL_append, List.take_append_drop]
  rw [leL_all fun x hx => Int.le_of_lt (h1 x hx), List.length_take] at hsp
  unfold backV
  generalize rankL l key = t at *
  by_cases hk : t < l.length ∧ (l.getD t default).1 = key
  · obtain ⟨hl, hk⟩ := hk
    rw [atV_in hl, if_pos ⟨rfl, hk⟩]
    have hd := drop_getD l t hl
    have hsd := (sorted_app (by rw [List.take_append_drop]; exact hs : Sorted (l.take t ++ l.drop t))).2.1
    rw [hd] at hsp hsd
    have h3 : leL (l.getD t default :: l.drop (t + 1)) key = 1 := by
      have : leL (l.getD t default :: l.drop (t + 1)) key = leL [l.getD t default] key + leL (l.drop (t + 1)) key := by rw [← leL_append]; rfl
      rw [this, leL_none (l := l.drop (t + 1)) fun x hx => by have := (List.pairwise_cons.1 hsd).1 x hx; omega]
      rw [leL_all fun x hx => by obtain rfl := List.mem_singleton.1 hx; omega]
      rfl
    rw [h3] at hsp
    have e : ((leL l key : Nat) : Int) - 1 = (t : Nat) := by omega
    rw [e, atV_in hl]
  · have hn : leL (l.drop t) key = 0 := by
      refine leL_none fun x hx => ?_
      have hl : t < l.length := by
        rcases Nat.lt_or_ge t l.length with h | h
        · exact h
        · rw [List.drop_of_length_le h] at hx; cases hx
      have hne : (l.getD t default).1 ≠ key := fun e => hk ⟨hl, e⟩
      have h0 : key ≤ (l.getD t default).1 := h2 _ (by rw [drop_getD l t hl]; exact List.mem_cons_self)
      have hd := drop_getD l t hl
      have hsd := (sorted_app (by rw [List.take_append_drop]; exact hs : Sorted (l.take t ++ l.drop t))).2.1
      rw [hd] at hx hsd
      rcases List.mem_cons.1 hx with rfl | hx
      · omega
      · have := (List.pairwise_cons.1 hsd).1 x hx
        omega
    rw [hn] at hsp
    have e : leL l key = t := by omega
    rw [e]
    rw [if_neg]
    rintro ⟨h3, h4⟩
    by_cases hl : t < l.length
    · rw [atV_in hl] at h4
      exact hk ⟨hl, h4⟩
    · rw [atV_out (by omega)] at h3
      cases h3
set_option maxRecDepth 100000 in
set_option maxHeartbeats 1000000 in
theorem dback_any {w : World} {F : Nat → Prop} {lv : Value} {l : List Row} (hd : DocAt w F lv l) (hs : Sorted l) (hl : l.length ≤ 900000) (key : Int) :
    Calls Try.prog 29 #[lv, .int .i64 key] w fun e w' => e = .returned (atR (backV l key)) ∧ Below w.heap.size w w' := by
  rw [← back_le hs key]
  obtain ⟨a, cap, rfl, hcell⟩ := hd.val
  have HC := Lib.hid hcell
  have HS := Lib.hid hs
  have HA := Lib.hid (dat_any hd ((leL l key : Nat) - 1))
  obtain ⟨n, hnn⟩ : ∃ n, n = l.length := ⟨_, rfl⟩
  have HN := Lib.hid hnn
  obtain ⟨r, hr⟩ : ∃ r, r = leL l key := ⟨_, rfl⟩
  have HR := Lib.hid hr
  rw [← hr] at HA ⊢
  rw [← hnn] at hl HA ⊢
  clear hcell hd hr hnn hs
  go_enter Try.func29, Try.ntmps29
  go_wp2_with fail
  go_loopw [7, 8] (fun mv nv wr => ∃ i m : Nat, i ≤ n ∧ m ≤ i ∧ mv = .int .i64 ((m : Int) - 1) ∧ nv = .int .i64 (i : Int) ∧ Hid (m = leL (l.take i) key) ∧ w = wr) (fun _ nv _ => n - (intOf nv).toNat)
  case atStart => exact ⟨0, 0, Nat.zero_le _, Nat.le_refl _, rfl, rfl, Lib.hid (by simp [leL]), rfl⟩
  case round =>
    obtain ⟨i, m, hi, hm, rfl, rfl, HM, rfl⟩ := hrel
    by_cases hin : i < n
    · obtain ⟨b, off, hab, hblt, _, hcx⟩ := HC.out (by rw [← HN.out]; omega)
      subst hab
      have hil : i < l.length := by rw [← HN.out]; exact hin
      have x1 := (hcx i hil).1
      obtain ⟨e, hb⟩ := sorted_take HS.out hil
      have hmm := HM.out
      have z1 : (i : Int) < (n : Int) := by omega
      have z2 : (0 : Int) ≤ (i : Int) := by omega
      generalize l.getD i default = x at *
      by_cases hk : x.1 ≤ key
      · have HM2 : Hid (i + 1 = leL (l.take (i + 1)) key) := Lib.hid (by
          rw [leL_all, List.length_take]
          · omega
          · intro y hy
            rw [e] at hy
            rcases List.mem_append.1 hy with hy | hy
            · have := hb y hy; omega
            · obtain rfl := List.mem_singleton.1 hy
              exact hk)
        clear hcx e hb hmm HM
        go_wp2_with fail
        go_roundw
        case rel => exact ⟨i + 1, i + 1, by omega, by omega, by go_num, by go_num, HM2, by first | rfl | trivial⟩
        case measure => simp [intOf]; omega
      · have HM2 : Hid (m = leL (l.take (i + 1)) key) := Lib.hid (by rw [e, leL_append, ← hmm]; simp [leL, hk])
        clear hcx e hb hmm HM
        go_wp2_with fail
        go_roundw
        case rel => exact ⟨i + 1, m, by omega, by omega, rfl, by go_num, HM2, by first | rfl | trivial⟩
        case measure => simp [intOf]; omega
    · obtain rfl : i = n := by omega
      have hmr : m = r := by rw [HM.out, HR.out, HN.out, List.take_length]
      subst hmr
      go_wp2_with fail
      refine HA.out.mono ?_
      rintro e w1 ⟨rfl, hb⟩
      unfold atR
      go_wp2_with fail
      go_ret3
      exact ⟨rfl, hb⟩
theorem sorted_snoc {a : List Row} {x : Row} (h : Sorted a) (hx : ∀ y ∈ a, y.1 < x.1) : Sorted (a ++ [x]) :=
  List.pairwise_append.2 ⟨h, List.pairwise_singleton _ _, fun y hy z hz => by obtain rfl := List.mem_singleton.1 hz; exact hx y hy⟩
/-- A call says whether something holds. -/
def BoolOk (p : Prop) (e : Ending) : Prop := ∃ b : Bool, e = .returned (.bool b) ∧ (b = true ↔ p)
set_option maxRecDepth 100000 in
set_option maxHeartbeats 1000000 in
theorem drises_any {w : World} {F : Nat → Prop} {lv : Value} {l : List Row} (hd : DocAt w F lv l) (hl : l.length ≤ 900000) :
    Calls Try.prog 26 #[lv] w fun e w' => BoolOk (Sorted l) e ∧ Below w.heap.size w w' := by
  obtain ⟨a, cap, rfl, hcell⟩ := hd.val
  have HC := Lib.hid hcell
  obtain ⟨n, hnn⟩ : ∃ n, n = l.length := ⟨_, rfl⟩
  have HN := Lib.hid hnn
  rw [← hnn] at hl ⊢
  clear hcell hd hnn
  go_enter Try.func26, Try.ntmps26
  go_wp2_with fail
  go_loopw [3] (fun nv wr => ∃ i : Nat, i ≤ n ∧ nv = .int .i64 ((i + 1 : Nat) : Int) ∧ Hid (Sorted (l.take (i + 1)) ∧ Below w.heap.size w wr)) (fun nv _ => n + 1 - (intOf nv).toNat)
  case atStart => exact ⟨0, Nat.zero_le _, rfl, Lib.hid ⟨by
      cases l with
      | nil => exact List.Pairwise.nil
      | cons x r => exact List.pairwise_singleton _ _, Below.refl _ _⟩⟩
  case round =>
    obtain ⟨i, hi, rfl, HM⟩ := hrel
    by_cases hin : i + 1 < n
    · obtain ⟨b, off, hab, hblt, _, hcx⟩ := HC.out (by rw [← HN.out]; omega)
      subst hab
      have hil : i + 1 < l.length := by rw [← HN.out]; exact hin
      have x1 := (HM.out.2.cell (p := ⟨b, off + (i + 1) * 2, none⟩) (by exact hblt)).trans (hcx (i + 1) hil).1
      have y1 := (HM.out.2.cell (p := ⟨b, off + i * 2, none⟩) (by exact hblt)).trans (hcx i (by omega)).1
      have e := take_snoc l (i + 1) hil
      have e0 := take_snoc l i (by omega)
      have hsm := HM.out.1
      have HB := Lib.hid HM.out.2
      have z1 : ((i + 1 : Nat) : Int) < (n : Int) := by omega
      have z2 : (0 : Int) ≤ ((i + 1 : Nat) : Int) := by omega
      have z3 : (0 : Int) ≤ (i : Int) := by omega
      have z4 : (i : Int) < (n : Int) := by omega
      have z5 : IntKind.i64.wrap (((i + 1 : Nat) : Int) - 1) = (i : Int) := by rw [IntKind.wrap_i64]; omega
      have hno : Sorted l → (l.getD i default).1 < (l.getD (i + 1) default).1 := fun h => sorted_get h (Nat.lt_succ_self _) hil
      generalize l.getD (i + 1) default = x at *
      generalize l.getD i default = y at *
      by_cases hk : x.1 ≤ y.1
      · have HF : Hid (¬ Sorted l) := Lib.hid fun h => by have := hno h; omega
        clear hcx e e0 hsm HM hno
        go_wp2_with fail
        go_quiet (fail)
        clear z5
        go_wp2_with fail
        go_ret
        exact ⟨⟨false, rfl, by simp [HF.out]⟩, below_drewN HB.out _⟩
      · have HM2 : Hid (Sorted (l.take (i + 1 + 1))) := Lib.hid (by
          rw [e]
          refine sorted_snoc hsm fun z hz => ?_
          rw [e0] at hz hsm
          rcases List.mem_append.1 hz with hz | hz
          · have := (sorted_app hsm).2.2 z hz y (by simp); omega
          · obtain rfl := List.mem_singleton.1 hz
            omega)
        have hk2 : ¬ x.1 ≤ y.1 := hk
        clear hcx e e0 hsm HM hno
        go_wp2_with fail
        go_quiet (fail)
        clear z5
        go_wp2_with fail
        go_roundw
        case rel => exact ⟨i + 1, by omega, by go_num, Lib.hid ⟨HM2.out, below_drewN HB.out _⟩⟩
        case measure => simp [intOf]; omega
    · have hT : Hid (Sorted l ∧ Below w.heap.size w wr) := Lib.hid ⟨by
        have := HM.out.1
        rw [List.take_of_length_le (by rw [← HN.out]; omega)] at this
        exact this, HM.out.2⟩
      clear HM
      have hin2 : ¬ ((i : Int) + 1 < (n : Int)) := by omega
      go_wp2_with fail
      go_ret
      exact ⟨⟨true, rfl, by simp [hT.out.1]⟩, hT.out.2⟩
end Go.Proofs.Ytdgapagpmdfndaa
