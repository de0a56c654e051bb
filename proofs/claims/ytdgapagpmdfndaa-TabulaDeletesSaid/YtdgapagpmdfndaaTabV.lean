/- LAYER 13 (tabula): Next, Back, Get. -/
import Derived.Test.YtdgapagpmdfndaaTabU
namespace Go.Proofs.Ytdgapagpmdfndaa
open Go.RowKit
set_option linter.unusedVariables false
theorem exists_cut' {l : List Row} (h : Sorted l) (key : Int) : IsCut l key (rankL l key) := by
  obtain ⟨t, ht⟩ := exists_cut h key
  rw [← rankL_cut h ht]; exact ht
set_option maxRecDepth 100000 in
theorem next_any {w : World} {B lo h t : Nat} {k : Kid} (hlo : 1 ≤ lo) (a : TabAt w B lo h t k) (key : Int) :
    Calls Try.prog 23 #[.pointer (some ⟨t, 0, none⟩), .int .i64 key] w fun e w' => e = .returned (atR (atV k.L (rankL k.L key : Nat))) ∧ Below w.heap.size w w' := by
  have H1 := Lib.hid (rank_any hlo a key)
  have HA := Lib.hid a
  clear a
  generalize rankL k.L key = n at *
  go_enter Try.func23, Try.ntmps23
  go_wp2_with fail
  refine H1.out.mono ?_
  rintro e w1 ⟨rfl, hb1⟩
  have H2 := Lib.hid (at_any hlo (HA.out.below hb1) (n : Int))
  go_wp2_with fail
  refine H2.out.mono ?_
  rintro e w2 ⟨rfl, hb2⟩
  have hb3 := hb1.trans (hb2.mono hb1.size)
  unfold atR
  go_wp2_with fail
  go_ret3
  exact ⟨rfl, hb3⟩
/-- What Back tells. -/
def backV (l : List Row) (key : Int) : Int × Int × Bool :=
  if (atV l (rankL l key : Nat)).2.2 = true ∧ (atV l (rankL l key : Nat)).1 = key then atV l (rankL l key : Nat) else atV l ((rankL l key : Nat) - 1)
set_option maxRecDepth 100000 in
set_option maxHeartbeats 1000000 in
theorem back_any {w : World} {B lo h t : Nat} {k : Kid} (hlo : 1 ≤ lo) (a : TabAt w B lo h t k) (key : Int) :
    Calls Try.prog 24 #[.pointer (some ⟨t, 0, none⟩), .int .i64 key] w fun e w' => e = .returned (atR (backV k.L key)) ∧ Below w.heap.size w w' := by
  have H1 := Lib.hid (rank_any hlo a key)
  have HA := Lib.hid a
  have hrl : rankL k.L key ≤ 900000 := Nat.le_trans (rankL_le _ _) a.many
  clear a
  unfold backV
  generalize rankL k.L key = n at *
  obtain ⟨⟨x1, x2, x3⟩, hx⟩ : ∃ x, x = atV k.L (n : Int) := ⟨_, rfl⟩
  obtain ⟨⟨y1, y2, y3⟩, hy⟩ : ∃ y, y = atV k.L ((n : Int) - 1) := ⟨_, rfl⟩
  rw [← hx, ← hy]
  have HX := Lib.hid hx
  have HY := Lib.hid hy
  clear hx hy
  have HIN : ∀ r, (if x3 = true ∧ x1 = key then (x1, x2, x3) else (y1, y2, y3)) = r →
      Calls Try.prog 24 #[.pointer (some ⟨t, 0, none⟩), .int .i64 key] w fun e w' => e = .returned (.tuple #[.int .i64 r.1, .int .i64 r.2.1, .bool r.2.2]) ∧ Below w.heap.size w w' := by
    rintro ⟨r1, r2, r3⟩ hr
    have HR := Lib.hid hr
    clear hr
    go_enter Try.func24, Try.ntmps24
    go_wp2_with fail
    refine H1.out.mono ?_
    rintro e w1 ⟨rfl, hb1⟩
    have H2 := Lib.hid (at_any hlo (HA.out.below hb1) (n : Int))
    rw [← HX.out] at H2
    unfold atR at H2
    go_wp2_with fail
    refine H2.out.mono ?_
    rintro e w2 ⟨rfl, hb2⟩
    have hb3 := hb1.trans (hb2.mono hb1.size)
    have HB3 := Lib.hid hb3
    have H3 := Lib.hid (at_any hlo (HA.out.below hb3) ((n : Int) - 1))
    rw [← HY.out] at H3
    unfold atR at H3
    clear hb1 hb2 hb3
    have hr := HR.out
    by_cases hc : x3 = true ∧ x1 = key
    · rw [if_pos hc] at hr
      cases hr
      obtain ⟨rfl, rfl⟩ := hc
      go_wp2_with fail
      go_ret3
      exact ⟨rfl, HB3.out⟩
    · rw [if_neg hc] at hr
      cases hr
      cases x3 with
      | false =>
        go_wp2_with fail
        refine H3.out.mono ?_
        rintro e w3 ⟨rfl, hb4⟩
        have hb5 := HB3.out.trans (hb4.mono HB3.out.size)
        go_wp2_with fail
        go_ret3
        exact ⟨rfl, hb5⟩
      | true =>
        have hne2 : ¬ x1 = key := fun e => hc ⟨rfl, e⟩
        go_wp2_with fail
        refine H3.out.mono ?_
        rintro e w3 ⟨rfl, hb4⟩
        have hb5 := HB3.out.trans (hb4.mono HB3.out.size)
        go_wp2_with fail
        go_ret3
        exact ⟨rfl, hb5⟩
  exact HIN _ rfl
set_option maxRecDepth 100000 in
set_option maxHeartbeats 1000000 in
theorem get_any {w : World} {B lo h t : Nat} {k : Kid} (hlo : 1 ≤ lo) (a : TabAt w B lo h t k) (key : Int) :
    Calls Try.prog 22 #[.pointer (some ⟨t, 0, none⟩), .int .i64 key] w fun e w' => e = .returned (.tuple #[.int .i64 ((getL k.L key).getD 0), .bool (getL k.L key).isSome]) ∧ Below w.heap.size w w' := by
  have H1 := Lib.hid (next_any hlo a key)
  have hcut := exists_cut' a.srt key
  have hthere := cut_there a.srt hcut
  have hnot := cut_not a.srt hcut
  have hle := rankL_le k.L key
  clear a
  generalize rankL k.L key = n at *
  by_cases hn : n < k.L.length
  · rw [atV_in hn] at H1
    unfold atR at H1
    by_cases hk : (k.L.getD n default).1 = key
    · rw [(hthere hn hk).2.2]
      generalize (k.L.getD n default).2 = v at *
      rw [hk] at H1
      clear hthere hnot hcut hk
      go_enter Try.func22, Try.ntmps22
      go_wp2_with fail
      refine H1.out.mono ?_
      rintro e w1 ⟨rfl, hb1⟩
      go_wp2_with fail
      go_ret2
      exact ⟨rfl, hb1⟩
    · rw [(hnot fun e => hk e.2).2.2]
      generalize (k.L.getD n default).2 = v at *
      generalize (k.L.getD n default).1 = u at *
      clear hthere hnot hcut
      go_enter Try.func22, Try.ntmps22
      go_wp2_with fail
      refine H1.out.mono ?_
      rintro e w1 ⟨rfl, hb1⟩
      go_wp2_with fail
      go_ret2
      exact ⟨rfl, hb1⟩
  · rw [atV_out (by omega)] at H1
    unfold atR at H1
    rw [(hnot fun e => hn e.1).2.2]
    clear hthere hnot hcut
    go_enter Try.func22, Try.ntmps22
    go_wp2_with fail
    refine H1.out.mono ?_
    rintro e w1 ⟨rfl, hb1⟩
    go_wp2_with fail
    go_ret2
    exact ⟨rfl, hb1⟩
end Go.Proofs.Ytdgapagpmdfndaa
