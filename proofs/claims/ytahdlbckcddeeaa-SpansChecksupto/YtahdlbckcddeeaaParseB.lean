/- WALKS OF LAYER 4 (parse), the program's: names, parts. -/
import Derived.Test.YtahdlbckcddeeaaParseA
namespace Go.Proofs.Ytahdlbckcddeeaa
open Go.RowKit
set_option linter.unusedVariables false
/-- Attributes that lie in memory. -/
structure AttrsAt (w : World) (ao : Option Addr) (al : Nat) (ats : List (ByteArray × ByteArray)) : Prop where
  len : ats.length = al
  cells : 0 < al → ∃ g p, ao = some ⟨g, p, none⟩ ∧ g < w.heap.size ∧ ∀ j, j < al → w.cell? ⟨g, p + j * 2, none⟩ = some (.string (ats.getD j default).1) ∧ w.cell? ⟨g, p + j * 2 + 1, none⟩ = some (.string (ats.getD j default).2)
  small : ∀ j, j < al → (ats.getD j default).1.size ≤ 140737488351232 ∧ (ats.getD j default).2.size ≤ 140737488351232
  few : al ≤ 140737488351232
theorem AttrsAt.below {w w' : World} {ao : Option Addr} {al : Nat} {ats : List (ByteArray × ByteArray)} (h : AttrsAt w ao al ats) (hb : Below w.heap.size w w') : AttrsAt w' ao al ats := by
  refine ⟨h.len, fun h0 => ?_, h.small, h.few⟩
  obtain ⟨g, p, ha, hg, hc⟩ := h.cells h0
  exact ⟨g, p, ha, Nat.lt_of_lt_of_le hg hb.size, fun j hj => ⟨(hb.cell (by exact hg)).trans (hc j hj).1, (hb.cell (by exact hg)).trans (hc j hj).2⟩⟩
theorem namesB_drop (last : ByteArray) (ats : List (ByteArray × ByteArray)) (k : Nat) (h : k < ats.length) : namesB last (ats.drop k) = (nameP (ats.getD k default).1.data.toList && !leB (ats.getD k default).1 last && namesB (ats.getD k default).1 (ats.drop (k + 1))) := by
  rw [List.drop_eq_getElem_cons h, namesB, List.getD_eq_getElem?_getD, List.getElem?_eq_getElem h]
  rfl
set_option maxRecDepth 100000 in
set_option maxHeartbeats 2000000 in
theorem names_any (x : Item) (ao : Option Addr) (al ac : Nat) (w : World) (hn : x.name.size ≤ 140737488351232) (ha : AttrsAt w ao al x.attrs) :
    Calls Try.prog 37 #[.agg #[.int .i64 x.level, .int .i64 x.kind, .string x.name, .string x.text, .slice ao al ac]] w fun e w' => e = .returned (.int .i64 (namesP x)) ∧ Below w.heap.size w w' := by
  have hnm : x.name.size ≤ maxLen := by unfold maxLen; omega
  have hfew := ha.few
  have HA := Lib.hid ha
  have hlen := Lib.hid ha.len
  clear ha
  cases hv : nameP x.name.data.toList
  · have hr : Hid (namesP x = 63) := by unfold namesP; rw [if_pos hv]; exact Lib.hid rfl
    have HV := Lib.hid hv
    clear hv
    go_enter Try.func37, Try.ntmps37
    go_wp2_with fail
    refine (name_any _ hnm _).mono ?_
    rw [HV.out]
    rintro e w1 ⟨rfl, hb1⟩
    go_wp2_with fail
    go_ret
    exact ⟨ret_int hr.out.symm, ((Below.refl _ _).alloc (Nat.le_refl _) _).trans (hb1.mono (by simp))⟩
  · have hr : Hid (namesP x = if namesB ByteArray.empty x.attrs = false then 63 else if 20 < x.attrs.length then 67 else 0) := by unfold namesP; rw [if_neg (by rw [hv]; simp)]; exact Lib.hid rfl
    have HV := Lib.hid hv
    clear hv
    go_enter Try.func37, Try.ntmps37
    go_wp2_with fail
    refine (name_any _ hnm _).mono ?_
    rw [HV.out]
    rintro e w1 ⟨rfl, hb1⟩
    have hb0 : Below w.heap.size w w1 := ((Below.refl _ _).alloc (Nat.le_refl _) _).trans (hb1.mono (by simp))
    have hc4 : w1.cell? ⟨w.heap.size, 4, none⟩ = some (.slice ao al ac) := (hb1.cell (by simp)).trans (by rw [World.cell?_alloc_mark]; rfl)
    have hsz : w.heap.size < w1.heap.size := by have := hb1.size; simp at this; omega
    go_wp2_with fail
    go_loopw [3, 13] (fun v i wr => ∃ (k : Nat) (l : ByteArray), k ≤ al ∧ i = .int .i64 k ∧ v = .string l ∧ namesB l (x.attrs.drop k) = namesB ByteArray.empty x.attrs ∧ Below w1.heap.size w1 wr) (fun _ i _ => al - (intOf i).toNat)
    case atStart => exact ⟨0, _, by omega, rfl, rfl, rfl, Below.refl _ _⟩
    case round =>
      obtain ⟨k, l, hk, rfl, rfl, hnb, hb⟩ := hrel
      have HNB := Lib.hid hnb
      clear hnb
      have hszr : w.heap.size < wr.heap.size := by have := hb.size; omega
      have hc4r : wr.cell? ⟨w.heap.size, 4, none⟩ = some (.slice ao al ac) := (hb.cell (by exact hsz)).trans hc4
      by_cases hlt : k < al
      · have har := (HA.out.below hb0).below hb
        obtain ⟨g, p, rfl, hg, hcs⟩ := har.cells (by omega)
        obtain ⟨a, hae⟩ : ∃ a, a = x.attrs.getD k default := ⟨_, rfl⟩
        have hca := (hcs k hlt).1
        have hcb := (hcs k hlt).2
        have hsa := (har.small k hlt).1
        rw [← hae] at hca hcb hsa
        have hdr : Hid (namesB l (x.attrs.drop k) = (nameP a.1.data.toList && !leB a.1 l && namesB a.1 (x.attrs.drop (k + 1)))) := by
          rw [hae]; exact namesB_drop l x.attrs k (by rw [hlen.out]; exact hlt)
        have hsm : a.1.size ≤ maxLen := by unfold maxLen; omega
        clear har hcs hae hc4
        cases hna : nameP a.1.data.toList
        · have HNA := Lib.hid hna
          clear hna
          go_wp2_with fail
          refine (name_any _ hsm _).mono ?_
          rw [HNA.out]
          rintro e w2 ⟨rfl, hb2⟩
          go_wp2_with fail
          go_ret
          have hb3 : Below w1.heap.size w1 w2 := (hb.alloc hb.size _).trans (hb2.mono (by have := hb.size; simp; omega))
          refine ⟨ret_int ?_, hb0.trans (hb3.mono hb0.size)⟩
          rw [hr.out, if_pos]
          rw [← HNB.out, hdr.out, HNA.out]; rfl
        · have HNA := Lib.hid hna
          clear hna
          go_wp2_with fail
          refine (name_any _ hsm _).mono ?_
          rw [HNA.out]
          rintro e w2 ⟨rfl, hb2⟩
          have hd0 : w2.cell? ⟨wr.heap.size, 0, none⟩ = some (.string a.1) := (hb2.cell (by simp)).trans (by rw [World.cell?_alloc_mark]; rfl)
          have hszw : wr.heap.size < w2.heap.size := by have := hb2.size; simp at this; omega
          have hb3 : Below w1.heap.size w1 w2 := (hb.alloc hb.size _).trans (hb2.mono (by have := hb.size; simp; omega))
          have HB3 := Lib.hid hb3
          clear hb3
          go_wp2_with fail
          · have ht : Op.bytesLess a.fst.toList l.toList = true ∨ (a.fst.toList == l.toList) = true := by assumption
            have hle : leB a.1 l = true := by unfold leB; rw [Bool.or_eq_true]; exact ht
            go_ret
            refine ⟨ret_int ?_, hb0.trans (HB3.out.mono hb0.size)⟩
            rw [hr.out, if_pos]
            rw [← HNB.out, hdr.out, HNA.out, hle]; rfl
          · have ht : Op.bytesLess a.fst.toList l.toList = false ∧ (a.fst.toList == l.toList) = false := by assumption
            have hle : leB a.1 l = false := by unfold leB; rw [ht.1, ht.2]; rfl
            go_roundw
            case rel => exact ⟨k + 1, a.1, by omega, by go_num, rfl, by rw [← HNB.out, hdr.out, HNA.out, hle]; rfl, HB3.out⟩
            case measure => simp [intOf]; omega
      · obtain rfl : k = al := by omega
        have hfin : Hid (namesP x = if 20 < k then 67 else 0) := by
          have e : namesB ByteArray.empty x.attrs = true := by rw [← HNB.out, List.drop_eq_nil_of_le (by rw [hlen.out]; omega)]; rfl
          rw [hr.out, e, hlen.out]; exact Lib.hid rfl
        go_wp2_with fail
        all_goals go_ret
        all_goals refine ⟨ret_int (hfin.out.trans ?_).symm, hb0.trans (hb.mono hb0.size)⟩
        · rw [if_pos (by omega)]
        · rw [if_neg (by omega)]

theorem valuesP_ne (e : Int) (h : e ≠ 0) (l : List (ByteArray × ByteArray)) : valuesP e l = e := by
  induction l with
  | nil => rfl
  | cons a r ih => rw [valuesP, if_neg h, ih]
theorem valuesP_drop (e : Int) (l : List (ByteArray × ByteArray)) (k : Nat) (h : k < l.length) : valuesP e (l.drop k) = valuesP (if e = 0 then charsP (l.getD k default).2 else e) (l.drop (k + 1)) := by
  rw [List.drop_eq_getElem_cons h, valuesP, List.getD_eq_getElem?_getD, List.getElem?_eq_getElem h]
  rfl
theorem empty_toList {s : ByteArray} (h : s.size = 0) : s.toList = [] := by
  rw [Lib.toList_data]
  apply List.eq_nil_of_length_eq_zero
  have := Lib.size_eq s
  omega
set_option maxRecDepth 100000 in
set_option maxHeartbeats 2000000 in
theorem parts_text (x : Item) (ao : Option Addr) (al ac : Nat) (w : World) (ht : x.text.size ≤ 140737488351232) (ha : AttrsAt w ao al x.attrs) (h1 : x.kind = 2) (h2 : x.name.size = 0) (h3 : al = 0) :
    Calls Try.prog 34 #[.agg #[.int .i64 x.level, .int .i64 x.kind, .string x.name, .string x.text, .slice ao al ac]] w fun e w' => e = .returned (.int .i64 (partsP x)) ∧ Below w.heap.size w w' := by
  have htm : x.text.size ≤ maxLen := by unfold maxLen; omega
  have hr : Hid (partsP x = charsP x.text) := by unfold partsP; rw [if_pos ⟨h1, h2, by rw [ha.len, h3]⟩]; exact Lib.hid rfl
  obtain ⟨lv, kd, nm, tx, ats⟩ := x
  simp only at h1 h2
  subst h1 h3
  obtain ⟨d⟩ := nm
  obtain rfl : d = #[] := Array.eq_empty_of_size_eq_zero h2
  clear ha h2
  go_enter Try.func34, Try.ntmps34
  go_wp2_with fail
  refine (chars_any _ htm _).mono ?_
  rintro e w1 ⟨rfl, hb1⟩
  go_wp2_with fail
  go_ret
  exact ⟨ret_int hr.out.symm, ((Below.refl _ _).alloc (Nat.le_refl _) _).trans (hb1.mono (by simp))⟩
set_option maxRecDepth 100000 in
set_option maxHeartbeats 2000000 in
theorem parts_not (x : Item) (ao : Option Addr) (al ac : Nat) (w : World) (hl : al ≤ 140737488351232) (hlen : x.attrs.length = al) (h1 : ¬ (x.kind = 2 ∧ x.name.size = 0 ∧ al = 0)) (h2 : x.kind ≠ 1 ∨ x.text.size ≠ 0) :
    Calls Try.prog 34 #[.agg #[.int .i64 x.level, .int .i64 x.kind, .string x.name, .string x.text, .slice ao al ac]] w fun e w' => e = .returned (.int .i64 (partsP x)) ∧ Below w.heap.size w w' := by
  have hr : Hid (partsP x = 68) := by unfold partsP; rw [if_neg (by rw [hlen]; exact h1), if_pos h2]; exact Lib.hid rfl
  have bel : Below w.heap.size w (w.alloc (.cells #[.int .i64 x.level, .int .i64 x.kind, .string x.name, .string x.text, .slice ao al ac] 37)) := (Below.refl _ _).alloc (Nat.le_refl _) _
  obtain ⟨lv, kd, nm, tx, ats⟩ := x
  simp only at h1 h2 bel
  by_cases k2 : kd = 2
  · subst k2
    by_cases hz : nm.size = 0
    · have hal : ((al : Int) == 0) = false := by
        have : al ≠ 0 := fun h => h1 ⟨rfl, hz, h⟩
        simp; omega
      have hnm : nm.toList = [] := empty_toList hz
      clear h1 h2 hz
      go_enter Try.func34, Try.ntmps34
      go_wp2_with fail
      go_ret
      exact ⟨ret_int hr.out.symm, bel⟩
    · have hnm : nm.toList.isEmpty = false := ne_empty (by omega)
      clear h1 h2 hz
      go_enter Try.func34, Try.ntmps34
      go_wp2_with fail
      go_ret
      exact ⟨ret_int hr.out.symm, bel⟩
  · have k2' : (kd == 2) = false := by simpa using k2
    by_cases k1 : kd = 1
    · subst k1
      have htx : tx.toList.isEmpty = false := by
        rcases h2 with h2 | h2
        · exact absurd rfl h2
        · exact ne_empty (by omega)
      clear h1 h2
      go_enter Try.func34, Try.ntmps34
      go_wp2_with fail
      go_ret
      exact ⟨ret_int hr.out.symm, bel⟩
    · have k1' : (kd != 1) = true := by simpa using k1
      clear h1 h2
      go_enter Try.func34, Try.ntmps34
      go_wp2_with fail
      go_ret
      exact ⟨ret_int hr.out.symm, bel⟩
set_option maxRecDepth 100000 in
set_option maxHeartbeats 2000000 in
theorem parts_elem (x : Item) (ao : Option Addr) (al ac : Nat) (w : World) (hn : x.name.size ≤ 140737488351232) (ha : AttrsAt w ao al x.attrs) (h1 : x.kind = 1) (h2 : x.text.size = 0) :
    Calls Try.prog 34 #[.agg #[.int .i64 x.level, .int .i64 x.kind, .string x.name, .string x.text, .slice ao al ac]] w fun e w' => e = .returned (.int .i64 (partsP x)) ∧ Below w.heap.size w w' := by
  have hr : Hid (partsP x = valuesP (namesP x) x.attrs) := by
    unfold partsP
    rw [if_neg (by rintro ⟨h, _⟩; rw [h1] at h; exact absurd h (by decide)), if_neg (by rintro (h | h); exact h h1; exact h h2)]
    exact Lib.hid rfl
  have hfew := ha.few
  have HA := Lib.hid ha
  have hlen := Lib.hid ha.len
  clear ha
  have hnames := names_any x ao al ac
  obtain ⟨lv, kd, nm, tx, ats⟩ := x
  simp only at h1 h2 hn hnames
  subst h1
  obtain ⟨d⟩ := tx
  obtain rfl : d = #[] := Array.eq_empty_of_size_eq_zero h2
  have HNM := Lib.hid hnames
  clear hnames h2
  obtain ⟨e0, he0⟩ : ∃ e0, e0 = namesP ⟨lv, 1, nm, ⟨#[]⟩, ats⟩ := ⟨_, rfl⟩
  have HE := Lib.hid he0
  clear he0
  go_enter Try.func34, Try.ntmps34
  go_wp2_with fail
  refine (HNM.out _ hn (HA.out.below ((Below.refl _ _).alloc (Nat.le_refl _) _))).mono ?_
  rw [← HE.out]
  rintro e w1 ⟨rfl, hb1⟩
  have hb0 : Below w.heap.size w w1 := ((Below.refl _ _).alloc (Nat.le_refl _) _).trans (hb1.mono (by simp))
  have hc4 : w1.cell? ⟨w.heap.size, 4, none⟩ = some (.slice ao al ac) := (hb1.cell (by simp)).trans (by rw [World.cell?_alloc_mark]; rfl)
  have hsz : w.heap.size < w1.heap.size := by have := hb1.size; simp at this; omega
  go_wp2_with fail
  go_loopw [3, 38] (fun v i wr => ∃ (k : Nat) (e : Int), k ≤ al ∧ i = .int .i64 k ∧ v = .int .i64 e ∧ valuesP e (ats.drop k) = valuesP e0 ats ∧ Below w1.heap.size w1 wr) (fun _ i _ => al - (intOf i).toNat)
  case atStart => exact ⟨0, _, by omega, rfl, rfl, rfl, Below.refl _ _⟩
  case round =>
    obtain ⟨k, e, hk, rfl, rfl, hvp, hb⟩ := hrel
    have HVP := Lib.hid hvp
    clear hvp
    by_cases hlt : k < al
    · have har := (HA.out.below hb0).below hb
      obtain ⟨g, p, rfl, hg, hcs⟩ := har.cells (by omega)
      obtain ⟨a, hae⟩ : ∃ a, a = ats.getD k default := ⟨_, rfl⟩
      have hca := (hcs k hlt).1
      have hcb := (hcs k hlt).2
      have hsa := (har.small k hlt).2
      rw [← hae] at hca hcb hsa
      have hdr : Hid (valuesP e (ats.drop k) = valuesP (if e = 0 then charsP a.2 else e) (ats.drop (k + 1))) := by
        rw [hae]; exact valuesP_drop e ats k (by rw [hlen.out]; exact hlt)
      have hsm : a.2.size ≤ maxLen := by unfold maxLen; omega
      clear har hcs hae hc4
      by_cases he : e = 0
      · subst he
        go_wp2_with fail
        refine (chars_any _ hsm _).mono ?_
        rintro e w2 ⟨rfl, hb2⟩
        have hb3 : Below w1.heap.size w1 w2 := (hb.alloc hb.size _).trans (hb2.mono (by have := hb.size; simp; omega))
        have HB3 := Lib.hid hb3
        clear hb3
        go_wp2_with fail
        go_roundw
        case rel => exact ⟨k + 1, _, by omega, by go_num, rfl, by rw [← HVP.out, hdr.out]; simp, HB3.out⟩
        case measure => simp [intOf]; omega
      · have he' : (e == 0) = false := by simpa using he
        have HE' := Lib.hid he
        clear he
        go_wp2_with fail
        go_roundw
        case rel => exact ⟨k + 1, _, by omega, by go_num, rfl, by rw [← HVP.out, hdr.out, if_neg HE'.out], hb.alloc hb.size _⟩
        case measure => simp [intOf]; omega
    · obtain rfl : k = al := by omega
      have hfin : Hid (partsP ⟨lv, 1, nm, ⟨#[]⟩, ats⟩ = e) := by
        rw [hr.out, ← HE.out, ← HVP.out, List.drop_eq_nil_of_le (Nat.le_of_eq hlen.out)]; exact Lib.hid rfl
      go_wp2_with fail
      go_ret
      exact ⟨ret_int hfin.out.symm, hb0.trans (hb.mono hb0.size)⟩
theorem parts_any (x : Item) (ao : Option Addr) (al ac : Nat) (w : World) (hn : x.name.size ≤ 140737488351232) (ht : x.text.size ≤ 140737488351232) (ha : AttrsAt w ao al x.attrs) :
    Calls Try.prog 34 #[.agg #[.int .i64 x.level, .int .i64 x.kind, .string x.name, .string x.text, .slice ao al ac]] w fun e w' => e = .returned (.int .i64 (partsP x)) ∧ Below w.heap.size w w' := by
  by_cases h1 : x.kind = 2 ∧ x.name.size = 0 ∧ al = 0
  · exact parts_text x ao al ac w ht ha h1.1 h1.2.1 h1.2.2
  by_cases h2 : x.kind ≠ 1 ∨ x.text.size ≠ 0
  · exact parts_not x ao al ac w ha.few ha.len h1 h2
  · exact parts_elem x ao al ac w hn ha (by omega) (by omega)
end Go.Proofs.Ytahdlbckcddeeaa
