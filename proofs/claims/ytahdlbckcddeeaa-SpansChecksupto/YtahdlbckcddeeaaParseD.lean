/- WALKS OF LAYER 4 (parse), the document's: chars, Parts. -/
import Derived.Test.YtahdlbckcddeeaaParseC
import Derived.Test.YtahdlbckcddeeaaGlyphG
import Derived.Test.YtahdlbckcddeeaaKit2
namespace Go.Proofs.Ytahdlbckcddeeaa
open Go.RowKit
set_option linter.unusedVariables false
/-- All its texts are small. -/
def TinyI (x : Item) : Prop := x.name.size ≤ 35184372088832 ∧ x.text.size ≤ 35184372088832 ∧ ∀ j, j < x.attrs.length → (x.attrs.getD j default).1.size ≤ 35184372088832 ∧ (x.attrs.getD j default).2.size ≤ 35184372088832
theorem rchars_any (s : ByteArray) (hs : s.size ≤ 35184372088832) (w : World) :
    Calls Try.prog 41 #[.string s] w fun e w' => e = .returned (.int .i64 (charsP s)) ∧ Below w.heap.size w w' := by
  obtain ⟨c, hc⟩ : ∃ c, c = countP s.data.toList := ⟨_, rfl⟩
  have hv : Hid (charsP s = if c < 0 then 64 else if 1500 < s.size then 67 else 0) := by rw [hc]; exact Lib.hid rfl
  have HC := Lib.hid hc
  clear hc
  have hm : s.size ≤ 9223372036854775807 := by omega
  go_enter Try.func41, Try.ntmps41
  go_wp2_with fail
  refine (rcount_any s hs _).mono ?_
  rw [← HC.out]
  rintro e w1 ⟨rfl, hb1⟩
  go_wp2_with fail
  all_goals go_ret
  all_goals refine ⟨ret_int (hv.out.trans ?_).symm, hb1⟩
  · rw [if_pos (by omega)]
  · rw [if_neg (by omega), if_pos (by omega)]
  · rw [if_neg (by omega), if_neg (by omega)]
set_option maxRecDepth 100000 in
set_option maxHeartbeats 2000000 in
theorem rparts_text (x : Item) (ao : Option Addr) (al ac : Nat) (w : World) (hx : TinyI x) (ha : AttrsAt w ao al x.attrs) (h1 : x.kind = 2) (h2 : x.name.size = 0) (h3 : al = 0) :
    Calls Try.prog 38 #[.agg #[.int .i64 x.level, .int .i64 x.kind, .string x.name, .string x.text, .slice ao al ac]] w fun e w' => e = .returned (.int .i64 (partsP x)) ∧ Below w.heap.size w w' := by
  have htm := hx.2.1
  have hr : Hid (partsP x = charsP x.text) := by unfold partsP; rw [if_pos ⟨h1, h2, by rw [ha.len, h3]⟩]; exact Lib.hid rfl
  obtain ⟨lv, kd, nm, tx, ats⟩ := x
  simp only at h1 h2
  subst h1 h3
  obtain ⟨d⟩ := nm
  obtain rfl : d = #[] := Array.eq_empty_of_size_eq_zero h2
  clear ha h2 hx
  go_enter Try.func38, Try.ntmps38
  go_wp2_with fail
  refine (rchars_any _ htm _).mono ?_
  rintro e w1 ⟨rfl, hb1⟩
  go_wp2_with fail
  go_ret
  exact ⟨ret_int hr.out.symm, ((Below.refl _ _).alloc (Nat.le_refl _) _).trans (hb1.mono (by simp))⟩
set_option maxRecDepth 100000 in
set_option maxHeartbeats 2000000 in
theorem rparts_not (x : Item) (ao : Option Addr) (al ac : Nat) (w : World) (hl : al ≤ 140737488351232) (hlen : x.attrs.length = al) (h1 : ¬ (x.kind = 2 ∧ x.name.size = 0 ∧ al = 0)) (h2 : x.kind ≠ 1 ∨ x.text.size ≠ 0) :
    Calls Try.prog 38 #[.agg #[.int .i64 x.level, .int .i64 x.kind, .string x.name, .string x.text, .slice ao al ac]] w fun e w' => e = .returned (.int .i64 (partsP x)) ∧ Below w.heap.size w w' := by
  have hr : Hid (partsP x = 68) := by unfold partsP; rw [if_neg (by rw [hlen]; exact h1), if_pos h2]; exact Lib.hid rfl
  have bel : Below w.heap.size w (w.alloc (.cells #[.int .i64 x.level, .int .i64 x.kind, .string x.name, .string x.text, .slice ao al ac] 37)) := (Below.refl _ _).alloc (Nat.le_refl _) _
  obtain ⟨lv, kd, nm, tx, ats⟩ := x
  simp only at h1 h2 bel
  by_cases k2 : kd = 2
  · subst k2
    by_cases hz : nm.size = 0
    · have hal : 0 < al := by
        have : al ≠ 0 := fun h => h1 ⟨rfl, hz, h⟩
        omega
      have hnm : nm.toList = [] := empty_toList hz
      clear h1 h2 hz
      go_enter Try.func38, Try.ntmps38
      go_wp2_with fail
      go_ret
      exact ⟨ret_int hr.out.symm, bel⟩
    · have hnm : nm.toList.isEmpty = false := ne_empty (by omega)
      clear h1 h2 hz
      go_enter Try.func38, Try.ntmps38
      go_wp2_with fail
      go_ret
      exact ⟨ret_int hr.out.symm, bel⟩
  · have k2' : (kd == 2) = false := by simpa using k2
    by_cases k1 : kd = 1
    · subst k1
      have htx : tx.toList.isEmpty = false := by
        rcases h2 with h2 | h2
        · exact absurd rfl h2
        · exact ne_empty (by omega)
      clear h1 h2
      go_enter Try.func38, Try.ntmps38
      go_wp2_with fail
      go_ret
      exact ⟨ret_int hr.out.symm, bel⟩
    · have k1' : (kd != 1) = true := by simpa using k1
      clear h1 h2
      go_enter Try.func38, Try.ntmps38
      go_wp2_with fail
      go_ret
      exact ⟨ret_int hr.out.symm, bel⟩
theorem leB_empty {b : ByteArray} (h : nameP b.data.toList = true) : leB b ByteArray.empty = false := by
  have hne : b.data.toList ≠ [] := by
    intro e
    unfold nameP at h
    rw [e] at h
    simp at h
  have e2 : b.toList = b.data.toList := Lib.toList_data b
  have e3 : ByteArray.empty.toList = [] := Lib.toList_data _
  unfold leB
  rw [e2, e3]
  cases hb : b.data.toList with
  | nil => exact absurd hb hne
  | cons a r => rfl
theorem names_first (ats : List (ByteArray × ByteArray)) (h : 0 < ats.length) (hn : nameP (ats.getD 0 default).1.data.toList = true) : namesB ByteArray.empty (ats.drop 0) = namesB (ats.getD 0 default).1 (ats.drop 1) := by
  rw [namesB_drop ByteArray.empty ats 0 h, hn, leB_empty hn]
  rfl
/-- The name ahead of number k; none at the first. -/
def aheadOf (ats : List (ByteArray × ByteArray)) (k : Nat) : ByteArray := if k = 0 then ByteArray.empty else (ats.getD (k - 1) default).1
set_option maxRecDepth 100000 in
set_option maxHeartbeats 4000000 in
theorem rparts_elem (x : Item) (ao : Option Addr) (al ac : Nat) (w : World) (hx : TinyI x) (ha : AttrsAt w ao al x.attrs) (h1 : x.kind = 1) (h2 : x.text.size = 0) :
    Calls Try.prog 38 #[.agg #[.int .i64 x.level, .int .i64 x.kind, .string x.name, .string x.text, .slice ao al ac]] w fun e w' => e = .returned (.int .i64 (partsP x)) ∧ Below w.heap.size w w' := by
  have hr : Hid (partsP x = valuesP (namesP x) x.attrs) := by
    unfold partsP
    rw [if_neg (by rintro ⟨h, _⟩; rw [h1] at h; exact absurd h (by decide)), if_neg (by rintro (h | h); exact h h1; exact h h2)]
    exact Lib.hid rfl
  have hfew := ha.few
  have HA := Lib.hid ha
  have hlen := Lib.hid ha.len
  have HT := Lib.hid hx.2.2
  have hn := hx.1
  obtain ⟨lv, kd, nm, tx, ats⟩ := x
  simp only at h1 h2 hn
  subst h1
  obtain ⟨d⟩ := tx
  obtain rfl : d = #[] := Array.eq_empty_of_size_eq_zero h2
  clear ha h2 hx
  cases hv : nameP nm.data.toList
  · have hr2 : Hid (partsP ⟨lv, 1, nm, ⟨#[]⟩, ats⟩ = 63) := by
      have e : namesP ⟨lv, 1, nm, ⟨#[]⟩, ats⟩ = 63 := by unfold namesP; rw [if_pos hv]
      rw [hr.out, e, valuesP_ne 63 (by decide)]
      exact Lib.hid rfl
    have HV := Lib.hid hv
    clear hv
    go_enter Try.func38, Try.ntmps38
    go_wp2_with fail
    refine (rname_any _ hn _).mono ?_
    rw [HV.out]
    rintro e w1 ⟨rfl, hb1⟩
    go_wp2_with fail
    go_ret
    exact ⟨ret_int hr2.out.symm, ((Below.refl _ _).alloc (Nat.le_refl _) _).trans (hb1.mono (by simp))⟩
  have hnp : Hid (namesP ⟨lv, 1, nm, ⟨#[]⟩, ats⟩ = if namesB ByteArray.empty ats = false then 63 else if 20 < ats.length then 67 else 0) := by
    unfold namesP; rw [if_neg (by rw [hv]; simp)]; exact Lib.hid rfl
  have HV := Lib.hid hv
  clear hv
  go_enter Try.func38, Try.ntmps38
  go_wp2_with fail
  refine (rname_any _ hn _).mono ?_
  rw [HV.out]
  rintro e w1 ⟨rfl, hb1⟩
  have hb0 : Below w.heap.size w w1 := ((Below.refl _ _).alloc (Nat.le_refl _) _).trans (hb1.mono (by simp))
  have hc4 : w1.cell? ⟨w.heap.size, 4, none⟩ = some (.slice ao al ac) := (hb1.cell (by simp)).trans (by rw [World.cell?_alloc_mark]; rfl)
  have hsz : w.heap.size < w1.heap.size := by have := hb1.size; simp at this; omega
  have HA1 := Lib.hid (HA.out.below hb0)
  clear HA hb1
  go_wp2_with fail
  go_loopw [3] (fun i wr => ∃ k : Nat, k ≤ al ∧ i = .int .i64 k ∧ Hid (namesB (aheadOf ats k) (ats.drop k) = namesB ByteArray.empty ats) ∧ Below w1.heap.size w1 wr) (fun i _ => al - (intOf i).toNat)
  case atStart => exact ⟨0, by omega, rfl, Lib.hid rfl, Below.refl _ _⟩
  case round =>
    obtain ⟨k, hk, rfl, HNB, hb⟩ := hrel
    have hszr : w.heap.size < wr.heap.size := by have := hb.size; omega
    have hc4r : wr.cell? ⟨w.heap.size, 4, none⟩ = some (.slice ao al ac) := (hb.cell (by exact hsz)).trans hc4
    by_cases hlt : k < al
    · have har := HA1.out.below hb
      obtain ⟨g, p, rfl, hg, hcs⟩ := har.cells (by omega)
      obtain ⟨a, hae⟩ : ∃ a, a = ats.getD k default := ⟨_, rfl⟩
      have hca := (hcs k hlt).1
      have hsa := (HT.out k (by rw [hlen.out]; exact hlt)).1
      rw [← hae] at hca hsa
      have hdr : Hid (namesB (aheadOf ats k) (ats.drop k) = (nameP a.1.data.toList && !leB a.1 (aheadOf ats k) && namesB a.1 (ats.drop (k + 1)))) := by
        rw [hae]; exact namesB_drop _ ats k (by rw [hlen.out]; exact hlt)
      have hnext : Hid (aheadOf ats (k + 1) = a.1) := by
        unfold aheadOf; rw [if_neg (by omega), Nat.add_sub_cancel, hae]; exact Lib.hid rfl
      have z1 : (0 : Int) ≤ (k : Int) := by omega
      have z2 : (k : Int) < (al : Int) := by omega
      obtain ⟨q, hq⟩ : ∃ q, nameP a.1.data.toList = q := ⟨_, rfl⟩
      have HNM : Hid (∀ w, Calls Try.prog 42 #[.string a.1] w fun e w' => e = .returned (.bool q) ∧ Below w.heap.size w w') := Lib.hid fun w => (rname_any a.1 hsa w).mono fun e w' ⟨he, hw⟩ => ⟨by rw [he, hq], hw⟩
      have HQ := Lib.hid hq
      have HAE := Lib.hid hae
      clear hq hsa har hae
      cases q
      · clear hcs hnext
        have HKS : Hid (∀ wa wb : World, Below wa.heap.size wa wb → (wa.cell? ⟨w.heap.size, 4, none⟩ = some (.slice (some ⟨g, p, none⟩) al ac) ∧ wa.cell? ⟨g, p + k * 2, none⟩ = some (.string a.1) ∧ Below wr.heap.size wr wa) → (wb.cell? ⟨w.heap.size, 4, none⟩ = some (.slice (some ⟨g, p, none⟩) al ac) ∧ wb.cell? ⟨g, p + k * 2, none⟩ = some (.string a.1) ∧ Below wr.heap.size wr wb)) := Lib.hid fun wa wb h hs => by
          obtain ⟨s1, s2, s3⟩ := hs
          exact ⟨(h.cell (block_lt_of_cell s1)).trans s1, (h.cell (block_lt_of_cell s2)).trans s2, s3.trans (h.mono s3.size)⟩
        go_wp2_with fail
        refine wp_region_held_drew (S := (fun wa => wa.cell? ⟨w.heap.size, 4, none⟩ = some (.slice (some ⟨g, p, none⟩) al ac) ∧ wa.cell? ⟨g, p + k * 2, none⟩ = some (.string a.1) ∧ Below wr.heap.size wr wa)) (by kernel_rfl) ⟨hc4r, hca, (Below.refl _ _).drew⟩ (fun hHeld => ?_)
        refine take_on (i := 0) (v := ?v0a) rfl (by kernel_rfl) (by kernel_rfl) (by kernel_rfl) (fun _ _ _ h => h) (by rfl) ?hy0a (by assumption) ?_
        case hy0a => intro w hSw; (try dsimp only at hSw); go_simp <;> with_reducible rfl
        try simp only [Act.put, List.setIfInBounds_toArray, List.set_cons_zero, List.set_cons_succ]
        refine take_on (i := 1) (v := ?v1a) rfl (by kernel_rfl) (by kernel_rfl) (by kernel_rfl) (fun _ _ _ h => h) (by rfl) ?hy1a (by assumption) ?_
        case hy1a => intro w hSw; (try dsimp only at hSw); go_simp <;> with_reducible rfl
        try simp only [Act.put, List.setIfInBounds_toArray, List.set_cons_zero, List.set_cons_succ]
        refine take_on (i := 2) (v := ?v2a) rfl (by kernel_rfl) (by kernel_rfl) (by kernel_rfl) (fun _ _ _ h => h) (by rfl) ?hy2a (by assumption) ?_
        case hy2a => intro w hSw; (try dsimp only at hSw); go_simp <;> with_reducible rfl
        try simp only [Act.put, List.setIfInBounds_toArray, List.set_cons_zero, List.set_cons_succ]
        refine take_on (i := 3) (v := ?v3a) rfl (by kernel_rfl) (by kernel_rfl) (by kernel_rfl) (fun _ _ _ h => h) (by rfl) ?hy3a (by assumption) ?_
        case hy3a => intro w hSw; (try dsimp only at hSw); go_simp <;> with_reducible rfl
        try simp only [Act.put, List.setIfInBounds_toArray, List.set_cons_zero, List.set_cons_succ]
        refine take_on (i := 4) (v := ?v4a) rfl (by kernel_rfl) (by kernel_rfl) (by kernel_rfl) (fun _ _ _ h => h) (by rfl) ?hy4a (by assumption) ?_
        case hy4a => intro w hSw; (try dsimp only at hSw); go_simp <;> with_reducible rfl
        try simp only [Act.put, List.setIfInBounds_toArray, List.set_cons_zero, List.set_cons_succ]
        refine take_on (i := 5) (v := ?v5a) rfl (by kernel_rfl) (by kernel_rfl) (by kernel_rfl) (fun _ _ _ h => h) (by rfl) ?hy5a (by assumption) ?_
        case hy5a => intro w hSw; (try dsimp only at hSw); go_simp <;> with_reducible rfl
        try simp only [Act.put, List.setIfInBounds_toArray, List.set_cons_zero, List.set_cons_succ]
        refine take_call (i := 6) (by kernel_rfl) rfl (fun K hK => ?_)
        go_simp
        (go_at_call 42; refine (HNM.out _).mono ?_; rintro e w' ⟨rfl, hba⟩)
        go_wp2_with fail
        refine hK.out _ _ ?_ (fun hHeld2 => ?_)
        · exact HKS.out _ _ (by assumption) (by assumption)
        clear hK K hHeld
        have hHeld := hHeld2
        clear hHeld2
        try simp only [Act.put, List.setIfInBounds_toArray, List.set_cons_zero, List.set_cons_succ]
        refine take_on (i := 7) (v := ?v7a) rfl (by kernel_rfl) (by kernel_rfl) (by kernel_rfl) (fun _ _ _ h => h) (by rfl) ?hy7a (by assumption) ?_
        case hy7a => intro w hSw; (try dsimp only at hSw); go_simp <;> with_reducible rfl
        try simp only [Act.put, List.setIfInBounds_toArray, List.set_cons_zero, List.set_cons_succ]
        refine take_on (i := 8) (v := ?v8a) rfl (by kernel_rfl) (by kernel_rfl) (by kernel_rfl) (fun _ _ _ h => h) (by rfl) ?hy8a (by assumption) ?_
        case hy8a => intro w hSw; (try dsimp only at hSw); go_simp <;> with_reducible rfl
        try simp only [Act.put, List.setIfInBounds_toArray, List.set_cons_zero, List.set_cons_succ]
        refine take_off (i := 9) rfl (by kernel_rfl) (by kernel_rfl) (by kernel_rfl) (fun _ _ _ h => h) (by rfl) (by assumption) ?_
        try simp only [Act.put, List.setIfInBounds_toArray, List.set_cons_zero, List.set_cons_succ]
        refine take_off (i := 10) rfl (by kernel_rfl) (by kernel_rfl) (by kernel_rfl) (fun _ _ _ h => h) (by rfl) (by assumption) ?_
        try simp only [Act.put, List.setIfInBounds_toArray, List.set_cons_zero, List.set_cons_succ]
        refine take_off (i := 11) rfl (by kernel_rfl) (by kernel_rfl) (by kernel_rfl) (fun _ _ _ h => h) (by rfl) (by assumption) ?_
        try simp only [Act.put, List.setIfInBounds_toArray, List.set_cons_zero, List.set_cons_succ]
        refine take_off (i := 12) rfl (by kernel_rfl) (by kernel_rfl) (by kernel_rfl) (fun _ _ _ h => h) (by rfl) (by assumption) ?_
        try simp only [Act.put, List.setIfInBounds_toArray, List.set_cons_zero, List.set_cons_succ]
        refine take_off (i := 13) rfl (by kernel_rfl) (by kernel_rfl) (by kernel_rfl) (fun _ _ _ h => h) (by rfl) (by assumption) ?_
        try simp only [Act.put, List.setIfInBounds_toArray, List.set_cons_zero, List.set_cons_succ]
        refine take_off (i := 14) rfl (by kernel_rfl) (by kernel_rfl) (by kernel_rfl) (fun _ _ _ h => h) (by rfl) (by assumption) ?_
        try simp only [Act.put, List.setIfInBounds_toArray, List.set_cons_zero, List.set_cons_succ]
        refine take_off (i := 15) rfl (by kernel_rfl) (by kernel_rfl) (by kernel_rfl) (fun _ _ _ h => h) (by rfl) (by assumption) ?_
        try simp only [Act.put, List.setIfInBounds_toArray, List.set_cons_zero, List.set_cons_succ]
        refine take_off (i := 16) rfl (by kernel_rfl) (by kernel_rfl) (by kernel_rfl) (fun _ _ _ h => h) (by rfl) (by assumption) ?_
        try simp only [Act.put, List.setIfInBounds_toArray, List.set_cons_zero, List.set_cons_succ]
        refine take_off (i := 17) rfl (by kernel_rfl) (by kernel_rfl) (by kernel_rfl) (fun _ _ _ h => h) (by rfl) (by assumption) ?_
        try simp only [Act.put, List.setIfInBounds_toArray, List.set_cons_zero, List.set_cons_succ]
        refine take_off (i := 18) rfl (by kernel_rfl) (by kernel_rfl) (by kernel_rfl) (fun _ _ _ h => h) (by rfl) (by assumption) ?_
        try simp only [Act.put, List.setIfInBounds_toArray, List.set_cons_zero, List.set_cons_succ]
        refine take_off (i := 19) rfl (by kernel_rfl) (by kernel_rfl) (by kernel_rfl) (fun _ _ _ h => h) (by rfl) (by assumption) ?_
        try simp only [Act.put, List.setIfInBounds_toArray, List.set_cons_zero, List.set_cons_succ]
        refine take_off (i := 20) rfl (by kernel_rfl) (by kernel_rfl) (by kernel_rfl) (fun _ _ _ h => h) (by rfl) (by assumption) ?_
        try simp only [Act.put, List.setIfInBounds_toArray, List.set_cons_zero, List.set_cons_succ]
        refine take_off (i := 21) rfl (by kernel_rfl) (by kernel_rfl) (by kernel_rfl) (fun _ _ _ h => h) (by rfl) (by assumption) ?_
        try simp only [Act.put, List.setIfInBounds_toArray, List.set_cons_zero, List.set_cons_succ]
        refine take_off (i := 22) rfl (by kernel_rfl) (by kernel_rfl) (by kernel_rfl) (fun _ _ _ h => h) (by rfl) (by assumption) ?_
        try simp only [Act.put, List.setIfInBounds_toArray, List.set_cons_zero, List.set_cons_succ]
        refine take_off (i := 23) rfl (by kernel_rfl) (by kernel_rfl) (by kernel_rfl) (fun _ _ _ h => h) (by rfl) (by assumption) ?_
        try simp only [Act.put, List.setIfInBounds_toArray, List.set_cons_zero, List.set_cons_succ]
        refine take_off (i := 24) rfl (by kernel_rfl) (by kernel_rfl) (by kernel_rfl) (fun _ _ _ h => h) (by rfl) (by assumption) ?_
        try simp only [Act.put, List.setIfInBounds_toArray, List.set_cons_zero, List.set_cons_succ]
        refine take_off (i := 25) rfl (by kernel_rfl) (by kernel_rfl) (by kernel_rfl) (fun _ _ _ h => h) (by rfl) (by assumption) ?_
        try simp only [Act.put, List.setIfInBounds_toArray, List.set_cons_zero, List.set_cons_succ]
        refine take_off (i := 26) rfl (by kernel_rfl) (by kernel_rfl) (by kernel_rfl) (fun _ _ _ h => h) (by rfl) (by assumption) ?_
        try simp only [Act.put, List.setIfInBounds_toArray, List.set_cons_zero, List.set_cons_succ]
        refine take_on (i := 27) (v := ?v27a) rfl (by kernel_rfl) (by kernel_rfl) (by kernel_rfl) (fun _ _ _ h => h) (by rfl) ?hy27a (by assumption) ?_
        case hy27a => intro w hSw; (try dsimp only at hSw); go_simp <;> with_reducible rfl
        try simp only [Act.put, List.setIfInBounds_toArray, List.set_cons_zero, List.set_cons_succ]
        refine wpAnyH_done (by kernel_rfl) ?_ _
        obtain ⟨_, _, hz⟩ := ‹_ ∧ _ ∧ Below wr.heap.size wr _›
        go_wp2_with fail
        go_ret
        refine ⟨ret_int ?_, hb0.trans ((hb.trans (hz.mono hb.size)).mono hb0.size)⟩
        rw [hr.out, hnp.out, if_pos, valuesP_ne 63 (by decide)]
        rw [← HNB.out, hdr.out, HQ.out]
        rfl
      by_cases hk0 : k = 0
      · subst hk0
        have HKS : Hid (∀ wa wb : World, Below wa.heap.size wa wb → (wa.cell? ⟨w.heap.size, 4, none⟩ = some (.slice (some ⟨g, p, none⟩) al ac) ∧ wa.cell? ⟨g, p, none⟩ = some (.string a.1) ∧ Below wr.heap.size wr wa) → (wb.cell? ⟨w.heap.size, 4, none⟩ = some (.slice (some ⟨g, p, none⟩) al ac) ∧ wb.cell? ⟨g, p, none⟩ = some (.string a.1) ∧ Below wr.heap.size wr wb)) := Lib.hid fun wa wb h hs => by
          obtain ⟨s1, s2, s3⟩ := hs
          exact ⟨(h.cell (block_lt_of_cell s1)).trans s1, (h.cell (block_lt_of_cell s2)).trans s2, s3.trans (h.mono s3.size)⟩
        have hca0 : wr.cell? ⟨g, p + 0 * 2, none⟩ = some (.string a.1) := hca
        simp only [Nat.zero_mul, Nat.add_zero] at hca0 
        clear hcs hca
        go_wp2_with fail
        refine wp_region_held_drew (S := (fun wa => wa.cell? ⟨w.heap.size, 4, none⟩ = some (.slice (some ⟨g, p, none⟩) al ac) ∧ wa.cell? ⟨g, p, none⟩ = some (.string a.1) ∧ Below wr.heap.size wr wa)) (by kernel_rfl) ⟨hc4r, hca0, (Below.refl _ _).drew⟩ (fun hHeld => ?_)
        refine take_on (i := 0) (v := ?v0b) rfl (by kernel_rfl) (by kernel_rfl) (by kernel_rfl) (fun _ _ _ h => h) (by rfl) ?hy0b (by assumption) ?_
        case hy0b => intro w hSw; (try dsimp only at hSw); go_simp <;> with_reducible rfl
        try simp only [Act.put, List.setIfInBounds_toArray, List.set_cons_zero, List.set_cons_succ]
        refine take_on (i := 1) (v := ?v1b) rfl (by kernel_rfl) (by kernel_rfl) (by kernel_rfl) (fun _ _ _ h => h) (by rfl) ?hy1b (by assumption) ?_
        case hy1b => intro w hSw; (try dsimp only at hSw); go_simp <;> with_reducible rfl
        try simp only [Act.put, List.setIfInBounds_toArray, List.set_cons_zero, List.set_cons_succ]
        refine take_on (i := 2) (v := ?v2b) rfl (by kernel_rfl) (by kernel_rfl) (by kernel_rfl) (fun _ _ _ h => h) (by rfl) ?hy2b (by assumption) ?_
        case hy2b => intro w hSw; (try dsimp only at hSw); go_simp <;> with_reducible rfl
        try simp only [Act.put, List.setIfInBounds_toArray, List.set_cons_zero, List.set_cons_succ]
        refine take_on (i := 3) (v := ?v3b) rfl (by kernel_rfl) (by kernel_rfl) (by kernel_rfl) (fun _ _ _ h => h) (by rfl) ?hy3b (by assumption) ?_
        case hy3b => intro w hSw; (try dsimp only at hSw); go_simp <;> with_reducible rfl
        try simp only [Act.put, List.setIfInBounds_toArray, List.set_cons_zero, List.set_cons_succ]
        refine take_on (i := 4) (v := ?v4b) rfl (by kernel_rfl) (by kernel_rfl) (by kernel_rfl) (fun _ _ _ h => h) (by rfl) ?hy4b (by assumption) ?_
        case hy4b => intro w hSw; (try dsimp only at hSw); go_simp <;> with_reducible rfl
        try simp only [Act.put, List.setIfInBounds_toArray, List.set_cons_zero, List.set_cons_succ]
        refine take_on (i := 5) (v := ?v5b) rfl (by kernel_rfl) (by kernel_rfl) (by kernel_rfl) (fun _ _ _ h => h) (by rfl) ?hy5b (by assumption) ?_
        case hy5b => intro w hSw; (try dsimp only at hSw); go_simp <;> with_reducible rfl
        try simp only [Act.put, List.setIfInBounds_toArray, List.set_cons_zero, List.set_cons_succ]
        refine take_call (i := 6) (by kernel_rfl) rfl (fun K hK => ?_)
        go_simp
        (go_at_call 42; refine (HNM.out _).mono ?_; rintro e w' ⟨rfl, hba⟩)
        go_wp2_with fail
        refine hK.out _ _ ?_ (fun hHeld2 => ?_)
        · exact HKS.out _ _ (by assumption) (by assumption)
        clear hK K hHeld
        have hHeld := hHeld2
        clear hHeld2
        try simp only [Act.put, List.setIfInBounds_toArray, List.set_cons_zero, List.set_cons_succ]
        refine take_on (i := 7) (v := ?v7b) rfl (by kernel_rfl) (by kernel_rfl) (by kernel_rfl) (fun _ _ _ h => h) (by rfl) ?hy7b (by assumption) ?_
        case hy7b => intro w hSw; (try dsimp only at hSw); go_simp <;> with_reducible rfl
        try simp only [Act.put, List.setIfInBounds_toArray, List.set_cons_zero, List.set_cons_succ]
        refine take_on (i := 8) (v := ?v8b) rfl (by kernel_rfl) (by kernel_rfl) (by kernel_rfl) (fun _ _ _ h => h) (by rfl) ?hy8b (by assumption) ?_
        case hy8b => intro w hSw; (try dsimp only at hSw); go_simp <;> with_reducible rfl
        try simp only [Act.put, List.setIfInBounds_toArray, List.set_cons_zero, List.set_cons_succ]
        refine take_on (i := 9) (v := ?v9b) rfl (by kernel_rfl) (by kernel_rfl) (by kernel_rfl) (fun _ _ _ h => h) (by rfl) ?hy9b (by assumption) ?_
        case hy9b => intro w hSw; (try dsimp only at hSw); go_simp <;> with_reducible rfl
        try simp only [Act.put, List.setIfInBounds_toArray, List.set_cons_zero, List.set_cons_succ]
        refine take_on (i := 10) (v := ?v10b) rfl (by kernel_rfl) (by kernel_rfl) (by kernel_rfl) (fun _ _ _ h => h) (by rfl) ?hy10b (by assumption) ?_
        case hy10b => intro w hSw; (try dsimp only at hSw); go_simp <;> with_reducible rfl
        try simp only [Act.put, List.setIfInBounds_toArray, List.set_cons_zero, List.set_cons_succ]
        refine take_on (i := 11) (v := ?v11b) rfl (by kernel_rfl) (by kernel_rfl) (by kernel_rfl) (fun _ _ _ h => h) (by rfl) ?hy11b (by assumption) ?_
        case hy11b => intro w hSw; (try dsimp only at hSw); go_simp <;> with_reducible rfl
        try simp only [Act.put, List.setIfInBounds_toArray, List.set_cons_zero, List.set_cons_succ]
        refine take_off (i := 12) rfl (by kernel_rfl) (by kernel_rfl) (by kernel_rfl) (fun _ _ _ h => h) (by rfl) (by assumption) ?_
        try simp only [Act.put, List.setIfInBounds_toArray, List.set_cons_zero, List.set_cons_succ]
        refine take_off (i := 13) rfl (by kernel_rfl) (by kernel_rfl) (by kernel_rfl) (fun _ _ _ h => h) (by rfl) (by assumption) ?_
        try simp only [Act.put, List.setIfInBounds_toArray, List.set_cons_zero, List.set_cons_succ]
        refine take_off (i := 14) rfl (by kernel_rfl) (by kernel_rfl) (by kernel_rfl) (fun _ _ _ h => h) (by rfl) (by assumption) ?_
        try simp only [Act.put, List.setIfInBounds_toArray, List.set_cons_zero, List.set_cons_succ]
        refine take_off (i := 15) rfl (by kernel_rfl) (by kernel_rfl) (by kernel_rfl) (fun _ _ _ h => h) (by rfl) (by assumption) ?_
        try simp only [Act.put, List.setIfInBounds_toArray, List.set_cons_zero, List.set_cons_succ]
        refine take_off (i := 16) rfl (by kernel_rfl) (by kernel_rfl) (by kernel_rfl) (fun _ _ _ h => h) (by rfl) (by assumption) ?_
        try simp only [Act.put, List.setIfInBounds_toArray, List.set_cons_zero, List.set_cons_succ]
        refine take_off (i := 17) rfl (by kernel_rfl) (by kernel_rfl) (by kernel_rfl) (fun _ _ _ h => h) (by rfl) (by assumption) ?_
        try simp only [Act.put, List.setIfInBounds_toArray, List.set_cons_zero, List.set_cons_succ]
        refine take_off (i := 18) rfl (by kernel_rfl) (by kernel_rfl) (by kernel_rfl) (fun _ _ _ h => h) (by rfl) (by assumption) ?_
        try simp only [Act.put, List.setIfInBounds_toArray, List.set_cons_zero, List.set_cons_succ]
        refine take_off (i := 19) rfl (by kernel_rfl) (by kernel_rfl) (by kernel_rfl) (fun _ _ _ h => h) (by rfl) (by assumption) ?_
        try simp only [Act.put, List.setIfInBounds_toArray, List.set_cons_zero, List.set_cons_succ]
        refine take_off (i := 20) rfl (by kernel_rfl) (by kernel_rfl) (by kernel_rfl) (fun _ _ _ h => h) (by rfl) (by assumption) ?_
        try simp only [Act.put, List.setIfInBounds_toArray, List.set_cons_zero, List.set_cons_succ]
        refine take_off (i := 21) rfl (by kernel_rfl) (by kernel_rfl) (by kernel_rfl) (fun _ _ _ h => h) (by rfl) (by assumption) ?_
        try simp only [Act.put, List.setIfInBounds_toArray, List.set_cons_zero, List.set_cons_succ]
        refine take_off (i := 22) rfl (by kernel_rfl) (by kernel_rfl) (by kernel_rfl) (fun _ _ _ h => h) (by rfl) (by assumption) ?_
        try simp only [Act.put, List.setIfInBounds_toArray, List.set_cons_zero, List.set_cons_succ]
        refine take_off (i := 23) rfl (by kernel_rfl) (by kernel_rfl) (by kernel_rfl) (fun _ _ _ h => h) (by rfl) (by assumption) ?_
        try simp only [Act.put, List.setIfInBounds_toArray, List.set_cons_zero, List.set_cons_succ]
        refine take_off (i := 24) rfl (by kernel_rfl) (by kernel_rfl) (by kernel_rfl) (fun _ _ _ h => h) (by rfl) (by assumption) ?_
        try simp only [Act.put, List.setIfInBounds_toArray, List.set_cons_zero, List.set_cons_succ]
        refine take_off (i := 25) rfl (by kernel_rfl) (by kernel_rfl) (by kernel_rfl) (fun _ _ _ h => h) (by rfl) (by assumption) ?_
        try simp only [Act.put, List.setIfInBounds_toArray, List.set_cons_zero, List.set_cons_succ]
        refine take_on (i := 26) (v := ?v26b) rfl (by kernel_rfl) (by kernel_rfl) (by kernel_rfl) (fun _ _ _ h => h) (by rfl) ?hy26b (by assumption) ?_
        case hy26b => intro w hSw; (try dsimp only at hSw); go_simp <;> with_reducible rfl
        try simp only [Act.put, List.setIfInBounds_toArray, List.set_cons_zero, List.set_cons_succ]
        refine take_on (i := 27) (v := ?v27b) rfl (by kernel_rfl) (by kernel_rfl) (by kernel_rfl) (fun _ _ _ h => h) (by rfl) ?hy27b (by assumption) ?_
        case hy27b => intro w hSw; (try dsimp only at hSw); go_simp <;> with_reducible rfl
        try simp only [Act.put, List.setIfInBounds_toArray, List.set_cons_zero, List.set_cons_succ]
        refine wpAnyH_done (by kernel_rfl) ?_ _
        obtain ⟨_, _, hz⟩ := ‹_ ∧ _ ∧ Below wr.heap.size wr _›
        go_wp2_with fail
        go_roundw
        case rel =>
          refine ⟨1, by omega, rfl, Lib.hid ?_, hb.trans (hz.mono hb.size)⟩
          have e0 : aheadOf ats 0 = ByteArray.empty := rfl
          rw [← HNB.out, hdr.out, HQ.out, hnext.out, e0, leB_empty HQ.out]
          rfl
        case measure => simp [intOf]; omega
      · obtain ⟨j, hj⟩ : ∃ j, k = j + 1 := ⟨k - 1, by omega⟩
        obtain ⟨l, hle⟩ : ∃ l, l = ats.getD j default := ⟨_, rfl⟩
        have hcl := (hcs j (by omega)).1
        rw [← hle] at hcl
        have hah : Hid (aheadOf ats k = l.1) := by unfold aheadOf; rw [if_neg hk0, hj, Nat.add_sub_cancel, hle]; exact Lib.hid rfl
        have z0 : (0 : Int) < (k : Int) := by omega
        have z3 : IntKind.i64.wrap ((k : Int) - 1) = (j : Int) := by rw [IntKind.wrap_i64]; omega
        have z4 : (0 : Int) ≤ (j : Int) := by omega
        have z5 : (j : Int) < (al : Int) := by omega
        have hkp : 0 < k := by omega
        have HJ := Lib.hid hj
        have HLE := Lib.hid hle
        have HKS : Hid (∀ wa wb : World, Below wa.heap.size wa wb → (wa.cell? ⟨w.heap.size, 4, none⟩ = some (.slice (some ⟨g, p, none⟩) al ac) ∧ wa.cell? ⟨g, p + k * 2, none⟩ = some (.string a.1) ∧ wa.cell? ⟨g, p + j * 2, none⟩ = some (.string l.1) ∧ Below wr.heap.size wr wa) → (wb.cell? ⟨w.heap.size, 4, none⟩ = some (.slice (some ⟨g, p, none⟩) al ac) ∧ wb.cell? ⟨g, p + k * 2, none⟩ = some (.string a.1) ∧ wb.cell? ⟨g, p + j * 2, none⟩ = some (.string l.1) ∧ Below wr.heap.size wr wb)) := Lib.hid fun wa wb h hs => by
          obtain ⟨s1, s2, s3, s4⟩ := hs
          exact ⟨(h.cell (block_lt_of_cell s1)).trans s1, (h.cell (block_lt_of_cell s2)).trans s2, (h.cell (block_lt_of_cell s3)).trans s3, s4.trans (h.mono s4.size)⟩
        clear hcs hj hle hk0
        go_wp2_with fail
        go_region_held3 (fun wa => wa.cell? ⟨w.heap.size, 4, none⟩ = some (.slice (some ⟨g, p, none⟩) al ac) ∧ wa.cell? ⟨g, p + k * 2, none⟩ = some (.string a.1) ∧ wa.cell? ⟨g, p + j * 2, none⟩ = some (.string l.1) ∧ Below wr.heap.size wr wa)
          (first | exact HKS.out _ _ (by assumption) (by assumption) | exact ⟨hc4r, hca, hcl, (Below.refl _ _).drew⟩ | go_keep)
          (first | (go_at_call 42; refine (HNM.out _).mono ?_; rintro e w' ⟨rfl, hba⟩))
        obtain ⟨_, _, _, hz⟩ := ‹_ ∧ _ ∧ _ ∧ Below wr.heap.size wr _›
        obtain ⟨q2, hq2⟩ : ∃ q, leB a.1 l.1 = q := ⟨_, rfl⟩
        have hq3 : (Op.bytesLess a.1.toList l.1.toList || a.1.toList == l.1.toList) = q2 := hq2
        have HQ2 := Lib.hid hq2
        clear hq2
        rw [hq3]
        clear hq3
        cases q2
        · go_wp2_with fail
          go_roundw
          case rel =>
            refine ⟨k + 1, by omega, by go_num, Lib.hid ?_, hb.trans (hz.mono hb.size)⟩
            rw [← HNB.out, hdr.out, HQ.out, hnext.out, hah.out, HQ2.out]
            rfl
          case measure => simp [intOf]; omega
        · go_wp2_with fail
          go_ret
          refine ⟨ret_int ?_, hb0.trans ((hb.trans (hz.mono hb.size)).mono hb0.size)⟩
          rw [hr.out, hnp.out, if_pos, valuesP_ne 63 (by decide)]
          rw [← HNB.out, hdr.out, HQ.out, hah.out, HQ2.out]
          rfl
    · obtain rfl : k = al := by omega
      have hnb : namesB ByteArray.empty ats = true := by
        rw [← HNB.out, List.drop_eq_nil_of_le (by rw [hlen.out]; omega)]; rfl
      have hnp2 : Hid (namesP ⟨lv, 1, nm, ⟨#[]⟩, ats⟩ = if 20 < k then 67 else 0) := by
        rw [hnp.out, hnb, hlen.out]; exact Lib.hid rfl
      have hbw : Below w.heap.size w wr := hb0.trans (hb.mono hb0.size)
      have HA2 := Lib.hid (HA1.out.below hb)
      clear hc4 hnb hb hb0 HNB HA1 hnp
      by_cases h20 : 20 < k
      · have hfin : Hid (partsP ⟨lv, 1, nm, ⟨#[]⟩, ats⟩ = 67) := by
          rw [hr.out, hnp2.out, if_pos h20, valuesP_ne 67 (by decide)]; exact Lib.hid rfl
        go_wp2_with fail
        go_ret
        exact ⟨ret_int hfin.out.symm, hbw⟩
      · have hfin : Hid (partsP ⟨lv, 1, nm, ⟨#[]⟩, ats⟩ = valuesP 0 (ats.drop 0)) := by
          rw [hr.out, hnp2.out, if_neg h20]; exact Lib.hid rfl
        clear hr hnp2
        obtain ⟨wo, rfl⟩ : ∃ wo : World, wo = wr := ⟨_, rfl⟩
        go_wp2_with fail
        go_loopw [4, 5] (fun i u ws => ∃ n : Nat, n ≤ k ∧ i = .int .i64 n ∧ Hid (partsP ⟨lv, 1, nm, ⟨#[]⟩, ats⟩ = valuesP 0 (ats.drop n)) ∧ Below wo.heap.size wo ws) (fun i _ _ => k - (intOf i).toNat)
        case atStart => exact ⟨0, by omega, rfl, hfin, Below.refl _ _⟩
        case round =>
          obtain ⟨n, hn2, rfl, HF, hbs⟩ := hrel
          have hc4s : wr.cell? ⟨w.heap.size, 4, none⟩ = some (.slice ao k ac) := (hbs.cell (by exact hszr)).trans hc4r
          by_cases hltn : n < k
          · have har := HA2.out.below hbs
            obtain ⟨g, p, rfl, hg, hcs⟩ := har.cells (by omega)
            obtain ⟨a, hae⟩ : ∃ a, a = ats.getD n default := ⟨_, rfl⟩
            have hcb := (hcs n hltn).2
            have hsb := (HT.out n (by rw [hlen.out]; exact hltn)).2
            rw [← hae] at hcb hsb
            obtain ⟨e, he⟩ : ∃ e, charsP a.2 = e := ⟨_, rfl⟩
            have hvd : Hid (valuesP 0 (ats.drop n) = valuesP e (ats.drop (n + 1))) := by
              rw [valuesP_drop 0 ats n (by rw [hlen.out]; exact hltn), if_pos rfl, ← hae, he]; exact Lib.hid rfl
            have HCH : Hid (∀ w, Calls Try.prog 41 #[.string a.2] w fun e' w' => e' = .returned (.int .i64 e) ∧ Below w.heap.size w w') := Lib.hid fun w => (rchars_any a.2 hsb w).mono fun e' w' ⟨he', hw⟩ => ⟨by rw [he', he], hw⟩
            clear hcs har hae he hc4r hsb
            by_cases he0 : e = 0
            · subst he0
              go_wp2_with fail
              refine (HCH.out _).mono ?_
              rintro e' w2 ⟨rfl, hb2⟩
              go_wp2_with fail
              go_roundw
              case rel => exact ⟨n + 1, by omega, by go_num, Lib.hid (by rw [HF.out, hvd.out]), hbs.trans (hb2.mono hbs.size)⟩
              case measure => simp [intOf]; omega
            · go_wp2_with fail
              refine (HCH.out _).mono ?_
              rintro e' w2 ⟨rfl, hb2⟩
              go_wp2_with fail
              go_ret
              exact ⟨ret_int (by rw [HF.out, hvd.out, valuesP_ne e he0]), hbw.trans ((hbs.trans (hb2.mono hbs.size)).mono hbw.size)⟩
          · obtain rfl : n = k := by omega
            go_wp2_with fail
            go_ret
            exact ⟨ret_int (by rw [HF.out, List.drop_eq_nil_of_le (by rw [hlen.out]; omega)]; rfl), hbw.trans (hbs.mono hbw.size)⟩
theorem rparts_any (x : Item) (ao : Option Addr) (al ac : Nat) (w : World) (hx : TinyI x) (ha : AttrsAt w ao al x.attrs) :
    Calls Try.prog 38 #[.agg #[.int .i64 x.level, .int .i64 x.kind, .string x.name, .string x.text, .slice ao al ac]] w fun e w' => e = .returned (.int .i64 (partsP x)) ∧ Below w.heap.size w w' := by
  by_cases h1 : x.kind = 2 ∧ x.name.size = 0 ∧ al = 0
  · exact rparts_text x ao al ac w hx ha h1.1 h1.2.1 h1.2.2
  by_cases h2 : x.kind ≠ 1 ∨ x.text.size ≠ 0
  · exact rparts_not x ao al ac w ha.few ha.len h1 h2
  · exact rparts_elem x ao al ac w hx ha (by omega) (by omega)
end Go.Proofs.Ytahdlbckcddeeaa
