/- WALK OF THE STATEMENT SpansBack. -/
import Derived.Test.YtahdlbckcddeeaaSpansP
import Derived.Test.YtahdlbckcddeeaaSpansPlain5
namespace Go.Proofs.Ytahdlbckcddeeaa
open Go.RowKit
set_option linter.unusedVariables false
theorem row_spans {w : World} {g : Nat} {s : List (Int × Int)} {t : TypeId} (h : w.heap[g]? = some (.cells (spnCells s).toArray t (0, 0))) : SpansAt w g 0 s := fun k hk => by
  obtain ⟨e1, e2⟩ := spnCells_at s k hk
  rw [Nat.zero_add]
  constructor
  · rw [cell_of_row w g _ _ _ _ h]; simpa using e1
  · rw [cell_of_row w g _ _ _ _ h]; simpa using e2
set_option maxRecDepth 100000 in
set_option maxHeartbeats 2000000 in
theorem spansBack_any (a : Option Addr) (len cap : Nat) (L : List Item) (w : World) (hi : ItemsSl w a len L) :
    Calls Try.prog 4 #[.slice a len cap] w fun e w' => e = .returned (.bool true) ∧ Below w.heap.size w w' := by
  by_cases hz : (checkP L).2 = 0
  case neg =>
    have HLN := Lib.hid (label_no a len cap L w hi hz)
    unfold LabelNo at HLN
    generalize (checkP L).2 = c2 at *
    clear hi
    go_enter Try.func4, Try.ntmps4
    go_wp2_with fail
    refine HLN.out.mono ?_
    rintro e w1 ⟨rfl, hb1⟩
    go_wp2_with fail
    refine (alive_any _).mono ?_
    rintro e w2 ⟨rfl, hb2⟩
    go_wp2_with fail
    go_ret
    exact ⟨rfl, hb1.trans (hb2.mono hb1.size)⟩
  have hlen : len ≤ 1000 := by rw [hi.1]; exact check_few hz
  have h0 : 0 < len := by rw [hi.1]; exact List.length_pos_iff.2 (check_ok hz).1
  have HI := Lib.hid hi
  have HL := Lib.hid hi.1
  have HLV := Lib.hid (label_levels hz)
  obtain ⟨b, off, rfl, hit⟩ := hi.2.2 h0
  have HY := Lib.hid (label_yes b off len cap L hi.1 w hit hz)
  have hlp := labelP_len L
  have HCS : Hid (checkSB L (labelP L) = true) := Lib.hid (by unfold checkSB; exact decide_eq_true ⟨hz, HLV.out⟩)
  unfold LabelYes at HY
  rw [← HL.out] at HY hlp
  generalize labelP L = sp at *
  have HLP := Lib.hid hlp
  clear hi hit hlp hz
  go_enter Try.func4, Try.ntmps4
  go_wp2_with fail
  refine HY.out.mono ?_
  rintro e w1 ⟨g, rfl, hg, hrow, hb1⟩
  have HS1 : Hid (SpansSl w1 (some ⟨g, 0, none⟩) len sp) := Lib.hid ⟨HLP.out.symm, fun _ => ⟨g, 0, rfl, row_spans hrow⟩⟩
  clear hrow HY
  go_wp2_with fail
  have hlv := levels_any (some ⟨g, 0, none⟩) len len sp (by omega) w1 HS1.out
  rw [HLV.out] at hlv
  refine hlv.mono ?_
  rintro e w2 ⟨v, rfl, ho, hb2⟩
  have hll : (L.map (·.level)).length = len := by rw [List.length_map, HL.out]
  rw [hll] at ho
  obtain ⟨va, vc, rfl⟩ := ho.len
  have HHL := Lib.hid hll
  clear hlv hll
  go_wp2_with fail
  have hck := scheck_any (some ⟨b, off, none⟩) len cap L (some ⟨g, 0, none⟩) len len sp (by omega) w2 (HI.out.below (hb1.trans (hb2.mono hb1.size))) (HS1.out.below hb2)
  rw [HCS.out] at hck
  refine hck.mono ?_
  rintro e w3 ⟨rfl, hb3⟩
  have ho3 := ho.below hb3
  have hb12 := hb1.trans (hb2.mono hb1.size)
  have hb13 := hb12.trans (hb3.mono hb12.size)
  have HI3 := Lib.hid (HI.out.below hb13)
  clear hck ho hb1 hb2 hb3 hb12 HS1 HI
  go_wp2_with fail
  go_loopw [43] (fun i wr => ∃ k : Nat, k ≤ len ∧ i = .int .i64 k ∧ Below w3.heap.size w3 wr) (fun i _ => len - (intOf i).toNat)
  case atStart => exact ⟨0, by omega, rfl, Below.refl _ _⟩
  case round =>
    obtain ⟨k, hk, rfl, hb⟩ := hrel
    by_cases hlt : k < len
    · obtain ⟨b', off', hbo, hit⟩ := HI3.out.2.2 (by omega)
      cases hbo
      have h1 := ((hit.below hb) k (by rw [← HL.out]; exact hlt)).level
      obtain ⟨g2, cp, hv, _, hg2, _, _⟩ := ho3.shape (by omega)
      cases hv
      have r1 : wr.cell? ⟨g2, k, none⟩ = some (.int .i64 ((L.map (·.level)).getD k 0)) := by
        rw [hb.cell (by exact hg2), ho3.cellAt k (by omega)]; exact int_at _ k (by rw [HHL.out]; exact hlt)
      have hpq : (L.map (·.level)).getD k 0 = (L.getD k default).level := by
        have : k < L.length := by rw [← HL.out]; exact hlt
        simp [List.getD_eq_getElem?_getD, this]
      rw [hpq] at r1
      generalize (L.getD k default).level = p at r1 h1
      clear hit hpq
      have z1 : (0 : Int) ≤ (k : Int) := by omega
      have z2 : (k : Int) < (len : Int) := by omega
      go_wp2_with fail
      go_quiet (fail)
      go_wp2_with fail
      go_roundw
      case rel => exact ⟨k + 1, by omega, by go_num, below_drewN hb _⟩
      case measure => simp [intOf]; omega
    · obtain rfl : k = len := by omega
      go_wp2_with fail
      refine (alive_any _).mono ?_
      rintro e w4 ⟨rfl, hb4⟩
      go_wp2_with fail
      go_ret
      exact ⟨rfl, hb13.trans ((hb.trans (hb4.mono hb.size)).mono hb13.size)⟩
end Go.Proofs.Ytahdlbckcddeeaa
