/- WALKS OF LAYER 4 (parse), the document's: one, Check, End. -/
import Derived.Test.YtahdlbckcddeeaaParseD
namespace Go.Proofs.Ytahdlbckcddeeaa
open Go.RowKit
set_option linter.unusedVariables false
def LvOk (x : Item) : Prop := -9223372036854775808 ≤ x.level ∧ x.level ≤ 9223372036854775807
set_option maxRecDepth 100000 in
set_option maxHeartbeats 4000000 in
theorem rone_first (b off len cap : Nat) (x : Item) (hlen : 0 < len) (w : World) (hi : ItemAt w b off x) (hx : TinyI x) :
    Calls Try.prog 35 #[.slice (some ⟨b, off, none⟩) len cap, .int .i64 0] w fun e w' => e = .returned (.int .i64 (oneP 0 x x)) ∧ Below w.heap.size w w' := by
  obtain ⟨ao, al, ac, h4, ha⟩ := hi.attrs
  have h1 := hi.level
  have h2 := hi.kind
  have h3 := hi.name
  have h5 := hi.text
  have hbl : b < w.heap.size := block_lt_of_cell h1
  have HP := Lib.hid (rparts_any x ao al ac)
  have HX := Lib.hid hx
  have HA := Lib.hid ha
  have hone : Hid (oneP 0 x x = if x.level ≠ 0 ∨ x.kind ≠ 1 then 69 else partsP x) := by
    rw [oneP_eq]
    unfold placeP
    rw [if_pos rfl]
    unfold place0
    by_cases hc : x.level ≠ 0 ∨ x.kind ≠ 1
    · rw [if_pos hc, if_pos (by decide), if_pos hc]; exact Lib.hid rfl
    · rw [if_neg hc, if_neg (by decide), if_neg hc]; exact Lib.hid rfl
  clear hx ha hi
  have z1 : (0 : Int) < (len : Int) := by omega
  by_cases c1 : x.level = 0
  case neg =>
    have hone2 : Hid (oneP 0 x x = 69) := by rw [hone.out, if_pos (.inl c1)]; exact Lib.hid rfl
    have c1' : (x.level != 0) = true := by simpa using c1
    clear hone
    go_enter Try.func35, Try.ntmps35
    go_wp2_with fail
    go_ret
    exact ⟨ret_int hone2.out.symm, (Below.refl _ _).alloc (Nat.le_refl _) _⟩
  by_cases c2 : x.kind = 1
  case neg =>
    have hone2 : Hid (oneP 0 x x = 69) := by rw [hone.out, if_pos (.inr c2)]; exact Lib.hid rfl
    have c2' : (x.kind != 1) = true := by simpa using c2
    clear hone
    go_enter Try.func35, Try.ntmps35
    go_wp2_with fail
    go_ret
    exact ⟨ret_int hone2.out.symm, (Below.refl _ _).alloc (Nat.le_refl _) _⟩
  have hone2 : Hid (oneP 0 x x = partsP x) := by rw [hone.out, if_neg (by rintro (h | h); exact h c1; exact h c2)]; exact Lib.hid rfl
  clear hone
  generalize hpx : partsP x = px at hone2
  have HP2 : Hid (∀ w, AttrsAt w ao al x.attrs → Calls Try.prog 38 #[.agg #[.int .i64 0, .int .i64 1, .string x.name, .string x.text, .slice ao al ac]] w fun e w' => e = .returned (.int .i64 px) ∧ Below w.heap.size w w') := Lib.hid fun w h => by
    have := HP.out w HX.out h
    rw [c1, c2, hpx] at this
    exact this
  rw [c1] at h1
  rw [c2] at h2
  clear c1 c2 hpx HP
  go_enter Try.func35, Try.ntmps35
  go_wp2_with fail
  go_quiet (fail)
  go_wp2_with fail
  refine (HP2.out _ ((HA.out.below ((Below.refl _ _).alloc (Nat.le_refl _) _)).below (below_drewN (Below.refl _ _) _))).mono ?_
  rintro e w1 ⟨rfl, hb1⟩
  go_wp2_with fail
  go_ret
  have hba : Below w.heap.size w (w.alloc (.cells #[.int .i64 0, .int .i64 1, .string x.name, .string x.text, .slice ao al ac] 37)) := (Below.refl _ _).alloc (Nat.le_refl _) _
  have hbd := below_drewN hba nq
  exact ⟨ret_int hone2.out.symm, hbd.trans (hb1.mono hbd.size)⟩
set_option maxRecDepth 100000 in
set_option maxHeartbeats 4000000 in
theorem rone_next (b off len cap k : Nat) (prev x : Item) (hlen : k + 1 < len) (w : World) (hl47 : len ≤ 140737488351232) (hi : ItemAt w b (off + (k + 1) * 5) x) (hp : ItemAt w b (off + k * 5) prev) (hx : TinyI x) (hv : LvOk x) :
    Calls Try.prog 35 #[.slice (some ⟨b, off, none⟩) len cap, .int .i64 ((k + 1 : Nat) : Int)] w fun e w' => e = .returned (.int .i64 (oneP (k + 1) prev x)) ∧ Below w.heap.size w w' := by
  obtain ⟨ao, al, ac, h4, ha⟩ := hi.attrs
  have h1 := hi.level
  have h2 := hi.kind
  have h3 := hi.name
  have h5 := hi.text
  have p1 := hp.level
  have p2 := hp.kind
  have hbl : b < w.heap.size := block_lt_of_cell h1
  have HP := Lib.hid (rparts_any x ao al ac)
  have HX := Lib.hid hx
  have HA := Lib.hid ha
  obtain ⟨lv, hlv⟩ : ∃ lv, lv = x.level := ⟨_, rfl⟩
  obtain ⟨lv0, hlv0⟩ : ∃ lv, lv = prev.level := ⟨_, rfl⟩
  obtain ⟨kd0, hkd0⟩ : ∃ lv, lv = prev.kind := ⟨_, rfl⟩
  obtain ⟨kk, hkk⟩ : ∃ kk, kk = k + 1 := ⟨_, rfl⟩
  obtain ⟨hv1, hv2⟩ := hv
  have hone : Hid (oneP kk prev x = if lv < 1 ∨ lv0 + 1 < lv ∨ (lv0 < lv ∧ kd0 = 2) then 69 else if 40 ≤ lv then 42 else if 1000 ≤ kk then 43 else partsP x) := by
    have e : placeP kk prev x = place1 x.level prev.level prev.kind kk := by
      unfold placeP
      rw [if_neg (show kk ≠ 0 by omega)]
    rw [oneP_eq, hlv, hlv0, hkd0, e]
    unfold place1
    split
    · rw [if_pos (by decide)]; exact Lib.hid rfl
    split
    · rw [if_pos (by decide)]; exact Lib.hid rfl
    split
    · rw [if_pos (by decide)]; exact Lib.hid rfl
    · rw [if_neg (by decide)]; exact Lib.hid rfl
  rw [← hlv] at h1 hv1 hv2
  rw [← hlv0] at p1
  rw [← hkd0] at p2
  rw [← hkk] at h1 h2 h3 h4 h5 hlen ⊢
  have HK := Lib.hid hkk
  have HLV := Lib.hid hlv
  have z1 : (0 : Int) ≤ (kk : Int) := by omega
  have z2 : (kk : Int) < (len : Int) := by omega
  have z3 : IntKind.i64.wrap ((kk : Int) - 1) = (k : Int) := by rw [IntKind.wrap_i64]; omega
  have z4 : (0 : Int) ≤ (k : Int) := by omega
  have z5 : (k : Int) < (len : Int) := by omega
  have z0 : 0 < kk := by omega
  have z6 : ((kk : Int) == 0) = false := by simp; omega
  clear hx ha hi hp hlv hlv0 hkd0 hkk
  by_cases c1 : lv < 1
  · have hone2 : Hid (oneP kk prev x = 69) := by rw [hone.out, if_pos (.inl c1)]; exact Lib.hid rfl
    clear hone HP
    go_enter Try.func35, Try.ntmps35
    go_wp2_with fail
    have f1 : lv < 1 := by omega
    go_quiet (fail)
    go_wp2_with fail
    go_ret
    have hbd := below_drewN ((Below.refl w.heap.size w).alloc (Nat.le_refl _) (.cells #[.int .i64 lv, .int .i64 x.kind, .string x.name, .string x.text, .slice ao al ac] 37)) nq
    exact ⟨ret_int hone2.out.symm, hbd⟩
  obtain ⟨m, hm⟩ : ∃ m, m = lv - 1 := ⟨_, rfl⟩
  have z7 : IntKind.i64.wrap (lv - 1) = m := by rw [IntKind.wrap_i64]; omega
  have HM := Lib.hid hm
  by_cases c2 : lv0 < m
  · have hone2 : Hid (oneP kk prev x = 69) := by rw [hone.out, if_pos (.inr (.inl (by omega)))]; exact Lib.hid rfl
    clear hone HP hm
    go_enter Try.func35, Try.ntmps35
    go_wp2_with fail
    have f1 : ¬ lv < 1 := by omega
    go_quiet (fail)
    go_wp2_with fail
    go_ret
    have hbd := below_drewN ((Below.refl w.heap.size w).alloc (Nat.le_refl _) (.cells #[.int .i64 lv, .int .i64 x.kind, .string x.name, .string x.text, .slice ao al ac] 37)) nq
    exact ⟨ret_int hone2.out.symm, hbd⟩
  by_cases c3 : m = lv0
  · subst c3
    by_cases c4 : kd0 = 2
    · subst c4
      have hone2 : Hid (oneP kk prev x = 69) := by rw [hone.out, if_pos (.inr (.inr ⟨by omega, rfl⟩))]; exact Lib.hid rfl
      clear hone HP hm
      go_enter Try.func35, Try.ntmps35
      go_wp2_with fail
      have f1 : ¬ lv < 1 := by omega
      have f2 : ¬ m < m := by omega
      go_quiet (fail)
      go_wp2_with fail
      go_ret
      have hbd := below_drewN ((Below.refl w.heap.size w).alloc (Nat.le_refl _) (.cells #[.int .i64 lv, .int .i64 x.kind, .string x.name, .string x.text, .slice ao al ac] 37)) nq
      exact ⟨ret_int hone2.out.symm, hbd⟩
    · have hone2 : Hid (oneP kk prev x = if 40 ≤ lv then 42 else if 1000 ≤ kk then 43 else partsP x) := by
        rw [hone.out, if_neg (by omega)]; exact Lib.hid rfl
      clear hone hm
      generalize hpx : partsP x = px at hone2
      have HP2 : Hid (∀ w, AttrsAt w ao al x.attrs → Calls Try.prog 38 #[.agg #[.int .i64 lv, .int .i64 x.kind, .string x.name, .string x.text, .slice ao al ac]] w fun e w' => e = .returned (.int .i64 px) ∧ Below w.heap.size w w') := Lib.hid fun w h => by
        have := HP.out w HX.out h
        rw [← HLV.out, hpx] at this
        exact this
      clear hpx HP
      by_cases c5 : 40 ≤ lv
      · have hone3 : Hid (oneP kk prev x = 42) := by rw [hone2.out, if_pos c5]; exact Lib.hid rfl
        go_enter Try.func35, Try.ntmps35
        go_wp2_with fail
        have f1 : ¬ lv < 1 := by omega
        have f2 : ¬ m < m := by omega
        have f3 : (kd0 == 2) = false := by simpa using c4
        go_quiet (fail)
        go_wp2_with fail
        go_ret
        have hbd := below_drewN ((Below.refl w.heap.size w).alloc (Nat.le_refl _) (.cells #[.int .i64 lv, .int .i64 x.kind, .string x.name, .string x.text, .slice ao al ac] 37)) nq
        exact ⟨ret_int hone3.out.symm, hbd⟩
      by_cases c6 : 1000 ≤ kk
      · have hone3 : Hid (oneP kk prev x = 43) := by rw [hone2.out, if_neg c5, if_pos c6]; exact Lib.hid rfl
        go_enter Try.func35, Try.ntmps35
        go_wp2_with fail
        have f1 : ¬ lv < 1 := by omega
        have f2 : ¬ m < m := by omega
        have f3 : (kd0 == 2) = false := by simpa using c4
        go_quiet (fail)
        go_wp2_with fail
        go_ret
        have hbd := below_drewN ((Below.refl w.heap.size w).alloc (Nat.le_refl _) (.cells #[.int .i64 lv, .int .i64 x.kind, .string x.name, .string x.text, .slice ao al ac] 37)) nq
        exact ⟨ret_int hone3.out.symm, hbd⟩
      have hone3 : Hid (oneP kk prev x = px) := by rw [hone2.out, if_neg c5, if_neg c6]; exact Lib.hid rfl
      go_enter Try.func35, Try.ntmps35
      go_wp2_with fail
      have f1 : ¬ lv < 1 := by omega
      have f2 : ¬ m < m := by omega
      have f3 : (kd0 == 2) = false := by simpa using c4
      go_quiet (fail)
      go_wp2_with fail
      refine (HP2.out _ ((HA.out.below ((Below.refl _ _).alloc (Nat.le_refl _) _)).below (below_drewN (Below.refl _ _) _))).mono ?_
      rintro e w1 ⟨rfl, hb1⟩
      go_wp2_with fail
      go_ret
      have hbd := below_drewN ((Below.refl w.heap.size w).alloc (Nat.le_refl _) (.cells #[.int .i64 lv, .int .i64 x.kind, .string x.name, .string x.text, .slice ao al ac] 37)) nq
      exact ⟨ret_int hone3.out.symm, hbd.trans (hb1.mono hbd.size)⟩
  · have hone2 : Hid (oneP kk prev x = if 40 ≤ lv then 42 else if 1000 ≤ kk then 43 else partsP x) := by
      rw [hone.out, if_neg (by omega)]; exact Lib.hid rfl
    clear hone hm
    generalize hpx : partsP x = px at hone2
    have HP2 : Hid (∀ w, AttrsAt w ao al x.attrs → Calls Try.prog 38 #[.agg #[.int .i64 lv, .int .i64 x.kind, .string x.name, .string x.text, .slice ao al ac]] w fun e w' => e = .returned (.int .i64 px) ∧ Below w.heap.size w w') := Lib.hid fun w h => by
      have := HP.out w HX.out h
      rw [← HLV.out, hpx] at this
      exact this
    clear hpx HP
    by_cases c5 : 40 ≤ lv
    · have hone3 : Hid (oneP kk prev x = 42) := by rw [hone2.out, if_pos c5]; exact Lib.hid rfl
      go_enter Try.func35, Try.ntmps35
      go_wp2_with fail
      have f1 : ¬ lv < 1 := by omega
      have f2 : ¬ lv0 < m := by omega
      have f3 : (m == lv0) = false := by simpa using c3
      go_quiet (fail)
      go_wp2_with fail
      go_ret
      have hbd := below_drewN ((Below.refl w.heap.size w).alloc (Nat.le_refl _) (.cells #[.int .i64 lv, .int .i64 x.kind, .string x.name, .string x.text, .slice ao al ac] 37)) nq
      exact ⟨ret_int hone3.out.symm, hbd⟩
    by_cases c6 : 1000 ≤ kk
    · have hone3 : Hid (oneP kk prev x = 43) := by rw [hone2.out, if_neg c5, if_pos c6]; exact Lib.hid rfl
      go_enter Try.func35, Try.ntmps35
      go_wp2_with fail
      have f1 : ¬ lv < 1 := by omega
      have f2 : ¬ lv0 < m := by omega
      have f3 : (m == lv0) = false := by simpa using c3
      go_quiet (fail)
      go_wp2_with fail
      go_ret
      have hbd := below_drewN ((Below.refl w.heap.size w).alloc (Nat.le_refl _) (.cells #[.int .i64 lv, .int .i64 x.kind, .string x.name, .string x.text, .slice ao al ac] 37)) nq
      exact ⟨ret_int hone3.out.symm, hbd⟩
    have hone3 : Hid (oneP kk prev x = px) := by rw [hone2.out, if_neg c5, if_neg c6]; exact Lib.hid rfl
    go_enter Try.func35, Try.ntmps35
    go_wp2_with fail
    have f1 : ¬ lv < 1 := by omega
    have f2 : ¬ lv0 < m := by omega
    have f3 : (m == lv0) = false := by simpa using c3
    go_quiet (fail)
    go_wp2_with fail
    refine (HP2.out _ ((HA.out.below ((Below.refl _ _).alloc (Nat.le_refl _) _)).below (below_drewN (Below.refl _ _) _))).mono ?_
    rintro e w1 ⟨rfl, hb1⟩
    go_wp2_with fail
    go_ret
    have hbd := below_drewN ((Below.refl w.heap.size w).alloc (Nat.le_refl _) (.cells #[.int .i64 lv, .int .i64 x.kind, .string x.name, .string x.text, .slice ao al ac] 37)) nq
    exact ⟨ret_int hone3.out.symm, hbd.trans (hb1.mono hbd.size)⟩
end Go.Proofs.Ytahdlbckcddeeaa
