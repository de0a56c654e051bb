/- WALK OF LAYER 14 (spans): Check. -/
import Derived.Test.YtahdlbckcddeeaaSpansK
import Derived.Test.YtahdlbckcddeeaaSpansH
namespace Go.Proofs.Ytahdlbckcddeeaa
open Go.RowKit
set_option linter.unusedVariables false
/-- Are spans those of items? -/
noncomputable def checkSB (L : List Item) (s : List (Int × Int)) : Bool := decide ((checkP L).2 = 0 ∧ refLevelsP s = some (L.map (·.level)))
theorem checkSB_none {L : List Item} {s : List (Int × Int)} (h : refLevelsP s = none) : checkSB L s = false := by
  unfold checkSB; rw [h]; simp
theorem checkSB_err {L : List Item} {s : List (Int × Int)} (h : (checkP L).2 ≠ 0) : checkSB L s = false := by
  unfold checkSB; simp [h]
theorem checkSB_len {L : List Item} {s : List (Int × Int)} {lv : List Int} (h : refLevelsP s = some lv) (hn : lv.length ≠ L.length) : checkSB L s = false := by
  unfold checkSB
  rw [h]
  apply decide_eq_false
  rintro ⟨_, h2⟩
  cases h2
  exact hn (by simp)
theorem checkSB_ne {L : List Item} {s : List (Int × Int)} {lv : List Int} (h : refLevelsP s = some lv) (k : Nat) (hk : k < L.length) (hn : ¬ lv.getD k 0 = (L.getD k default).level) : checkSB L s = false := by
  unfold checkSB
  rw [h]
  apply decide_eq_false
  rintro ⟨_, h2⟩
  cases h2
  apply hn
  simp [List.getD_eq_getElem?_getD, hk]
theorem checkSB_yes {L : List Item} {s : List (Int × Int)} {lv : List Int} (h : refLevelsP s = some lv) (he : (checkP L).2 = 0) (hl : lv.length = L.length) (ha : ∀ k, k < L.length → lv.getD k 0 = (L.getD k default).level) : checkSB L s = true := by
  unfold checkSB
  rw [h]
  apply decide_eq_true
  refine ⟨he, ?_⟩
  congr 1
  refine List.ext_getElem (by simp [hl]) fun k h1 h2 => ?_
  have hk : k < L.length := by omega
  have := ha k hk
  simp only [List.getD_eq_getElem?_getD, List.getElem?_eq_getElem h1, List.getElem?_eq_getElem hk, Option.getD_some] at this
  rw [List.getElem_map]
  exact this
set_option maxRecDepth 100000 in
set_option maxHeartbeats 2000000 in
theorem scheck_any (a : Option Addr) (len cap : Nat) (L : List Item) (a2 : Option Addr) (len2 cap2 : Nat) (s : List (Int × Int)) (hlen2 : len2 ≤ 1048576) (w : World) (hi : ItemsSl w a len L) (hs : SpansSl w a2 len2 s) :
    Calls Try.prog 11 #[.slice a len cap, .slice a2 len2 cap2] w fun e w' => e = .returned (.bool (checkSB L s)) ∧ Below w.heap.size w w' := by
  have HLV := Lib.hid (levels_any a2 len2 cap2 s hlen2 w hs)
  have HI := Lib.hid hi
  have HL := Lib.hid hi.1
  have HL2 := Lib.hid hs.1
  have hl47 := hi.2.1
  clear hi hs
  obtain ⟨c2, hc2⟩ : ∃ c, (checkP L).2 = c := ⟨_, rfl⟩
  have HCK : Hid (∀ w, ItemsSl w a len L → Calls Try.prog 25 #[.slice a len cap] w fun e w' => (∃ c1 : Int, e = .returned (.tuple #[.int .i64 c1, .int .i64 c2])) ∧ Below w.heap.size w w') := Lib.hid fun w h => (check_any a len cap L w h).mono fun e w' ⟨he, hb⟩ => ⟨⟨(checkP L).1, by rw [he, hc2]⟩, hb⟩
  have HC2 := Lib.hid hc2
  clear hc2
  cases hlv : refLevelsP s with
  | none =>
    rw [checkSB_none hlv]
    rw [hlv] at HLV
    clear hlv
    go_enter Try.func11, Try.ntmps11
    go_wp2_with fail
    refine HLV.out.mono ?_
    rintro e w1 ⟨rfl, hb1⟩
    go_wp2_with fail
    refine (HCK.out _ (HI.out.below hb1)).mono ?_
    rintro e w2 ⟨⟨c1, rfl⟩, hb2⟩
    go_wp2_with fail
    go_ret
    exact ⟨rfl, hb1.trans (hb2.mono hb1.size)⟩
  | some lv =>
    rw [hlv] at HLV
    have HLE := Lib.hid hlv
    obtain ⟨m, hm⟩ : ∃ m, m = lv.length := ⟨_, rfl⟩
    have hms : m ≤ 1048576 := by
      have := @refLevels_len s
      rw [hlv] at this
      simp at this
      rw [hm]
      have := HL2.out
      omega
    have HM := Lib.hid hm
    clear hlv hm
    by_cases he : c2 = 0
    case neg =>
      rw [checkSB_err (by rw [HC2.out]; exact he)]
      go_enter Try.func11, Try.ntmps11
      go_wp2_with fail
      refine HLV.out.mono ?_
      rintro e w1 ⟨v, rfl, ho, hb1⟩
      rw [← HM.out] at ho
      obtain ⟨va, vc, rfl⟩ := ho.len
      clear ho
      go_wp2_with fail
      refine (HCK.out _ (HI.out.below hb1)).mono ?_
      rintro e w2 ⟨⟨c1, rfl⟩, hb2⟩
      go_wp2_with fail
      go_ret
      exact ⟨rfl, hb1.trans (hb2.mono hb1.size)⟩
    subst he
    by_cases hml : m = len
    case neg =>
      rw [checkSB_len HLE.out (by rw [← HM.out, ← HL.out]; exact hml)]
      go_enter Try.func11, Try.ntmps11
      go_wp2_with fail
      refine HLV.out.mono ?_
      rintro e w1 ⟨v, rfl, ho, hb1⟩
      rw [← HM.out] at ho
      obtain ⟨va, vc, rfl⟩ := ho.len
      clear ho
      go_wp2_with fail
      refine (HCK.out _ (HI.out.below hb1)).mono ?_
      rintro e w2 ⟨⟨c1, rfl⟩, hb2⟩
      have hml' : ¬ (m : Int) = (len : Int) := by omega
      go_wp2_with fail
      go_ret
      exact ⟨rfl, hb1.trans (hb2.mono hb1.size)⟩
    subst hml
    generalize hr : checkSB L s = r
    have HRR := Lib.hid hr
    clear hr
    go_enter Try.func11, Try.ntmps11
    go_wp2_with fail
    refine HLV.out.mono ?_
    rintro e w1 ⟨v, rfl, ho, hb1⟩
    rw [← HM.out] at ho
    obtain ⟨va, vc, rfl⟩ := ho.len
    go_wp2_with fail
    refine (HCK.out _ (HI.out.below hb1)).mono ?_
    rintro e w2 ⟨⟨c1, rfl⟩, hb2⟩
    have ho2 := ho.below hb2
    have hb12 := hb1.trans (hb2.mono hb1.size)
    have HI2 := Lib.hid (HI.out.below hb12)
    clear ho hb1 hb2 HI HLV HCK
    go_wp2_with fail
    go_loopw [36] (fun i wr => ∃ k : Nat, k ≤ m ∧ i = .int .i64 k ∧ Hid (∀ j, j < k → lv.getD j 0 = (L.getD j default).level) ∧ Below w2.heap.size w2 wr) (fun i _ => m - (intOf i).toNat)
    case atStart => exact ⟨0, by omega, rfl, Lib.hid (by omega), Below.refl _ _⟩
    case round =>
      obtain ⟨k, hk, rfl, HA, hb⟩ := hrel
      by_cases hlt : k < m
      · obtain ⟨b, off, rfl, hit⟩ := HI2.out.2.2 (by omega)
        have hx := (hit.below hb) k (by rw [← HL.out]; exact hlt)
        obtain ⟨x, hxe⟩ : ∃ x, x = L.getD k default := ⟨_, rfl⟩
        rw [← hxe] at hx
        obtain ⟨ao, al, ac, h4, _⟩ := hx.attrs
        have h1 := hx.level
        have h2 := hx.kind
        have h3 := hx.name
        have h5 := hx.text
        obtain ⟨g, cp, hv, _, hg, _, _⟩ := ho2.shape (by omega)
        cases hv
        have r1 : wr.cell? ⟨g, k, none⟩ = some (.int .i64 (lv.getD k 0)) := by
          rw [hb.cell (by exact hg), ho2.cellAt k (by omega)]; exact int_at lv k (by rw [← HM.out]; exact hlt)
        have hgr : g < wr.heap.size := Nat.lt_of_lt_of_le hg hb.size
        have hbr : b < wr.heap.size := block_lt_of_cell h1
        obtain ⟨p, hp⟩ : ∃ p, lv.getD k 0 = p := ⟨_, rfl⟩
        obtain ⟨q, hq⟩ : ∃ q, x.level = q := ⟨_, rfl⟩
        rw [hp] at r1
        rw [hq] at h1
        have HP := Lib.hid hp
        have HQ := Lib.hid hq
        have HX := Lib.hid hxe
        clear hp hq hxe hx hit
        have z1 : (0 : Int) ≤ (k : Int) := by omega
        have z2 : (k : Int) < (m : Int) := by omega
        by_cases hpq : p = q
        · go_wp2_with fail
          go_quiet (fail)
          go_wp2_with fail
          go_roundw
          case rel =>
            refine ⟨k + 1, by omega, by go_num, Lib.hid fun j hj => ?_, below_drewN (hb.alloc hb.size _) _⟩
            by_cases hjk : j < k
            · exact HA.out j hjk
            · obtain rfl : j = k := by omega
              rw [HP.out, ← HX.out, HQ.out, hpq]
          case measure => simp [intOf]; omega
        · have hr : r = false := by
            rw [← HRR.out]
            exact checkSB_ne HLE.out k (by rw [← HL.out]; exact hlt) (by rw [HP.out, ← HX.out, HQ.out]; exact hpq)
          subst hr
          go_wp2_with fail
          go_quiet (fail)
          go_wp2_with fail
          go_ret
          exact ⟨rfl, hb12.trans ((below_drewN (hb.alloc hb.size _) _).mono hb12.size)⟩
      · obtain rfl : k = m := by omega
        have hr : r = true := by
          rw [← HRR.out]
          exact checkSB_yes HLE.out HC2.out (by rw [← HM.out, HL.out]) (by rw [← HL.out]; exact HA.out)
        subst hr
        go_wp2_with fail
        go_ret
        exact ⟨rfl, hb12.trans (hb.mono hb12.size)⟩
end Go.Proofs.Ytahdlbckcddeeaa
