/- WALK OF THE STATEMENT SpansLabel. -/
import Derived.Test.YtahdlbckcddeeaaSpansW
import Derived.Test.YtahdlbckcddeeaaSpansQ
namespace Go.Proofs.Ytahdlbckcddeeaa
open Go.RowKit
set_option linter.unusedVariables false
set_option maxRecDepth 100000 in
set_option maxHeartbeats 2000000 in
theorem spansLabel_any (a : Option Addr) (len cap : Nat) (L : List Item) (w : World) (hi : ItemsSl w a len L) (ht : TinyL L) :
    Calls Try.prog 5 #[.slice a len cap] w fun e w' => e = .returned (.bool true) ∧ Below w.heap.size w w' := by
  have hl47 := hi.2.1
  by_cases b1 : 150 < len
  · clear hi ht
    go_enter Try.func5, Try.ntmps5
    go_wp2_with fail
    refine (alive_any _).mono ?_
    rintro e w4 ⟨rfl, hb4⟩
    go_wp2_with fail
    go_ret
    exact ⟨rfl, hb4⟩
  by_cases hz : (checkP L).2 = 0
  case neg =>
    have HI := Lib.hid hi
    have HT := Lib.hid ht
    have HZ := Lib.hid hz
    have HLN := Lib.hid (label_no a len cap L w hi hz)
    unfold LabelNo at HLN
    have HRN : Hid (∀ w', Below w.heap.size w w' → Calls Try.prog 16 #[.slice a len cap] w' fun e w'' => e = .returned (.tuple #[.slice none 0 0, .int .i64 (checkP L).2]) ∧ Below w'.heap.size w' w'') := Lib.hid fun w' h => rlabel_no a len cap L w' (HI.out.below h) HT.out HZ.out
    generalize (checkP L).2 = c2 at *
    clear hi ht HI HT
    go_enter Try.func5, Try.ntmps5
    go_wp2_with fail
    refine HLN.out.mono ?_
    rintro e w1 ⟨rfl, hb1⟩
    go_wp2_with fail
    refine (HRN.out _ hb1).mono ?_
    rintro e w2 ⟨rfl, hb2⟩
    have hb12 := hb1.trans (hb2.mono hb1.size)
    go_wp2_with fail
    go_loopw [34] (fun i wr => i = .int .i64 0 ∧ wr = w2) (fun i _ => 0)
    case atStart => exact ⟨rfl, rfl⟩
    case round =>
      obtain ⟨rfl, rfl⟩ := hrel
      go_wp2_with fail
      refine (alive_any _).mono ?_
      rintro e w4 ⟨rfl, hb4⟩
      go_wp2_with fail
      go_ret
      exact ⟨rfl, hb12.trans (hb4.mono hb12.size)⟩
  have h0 : 0 < len := by rw [hi.1]; exact List.length_pos_iff.2 (check_ok hz).1
  obtain ⟨b, off, rfl, hit⟩ := hi.2.2 h0
  have HL := Lib.hid hi.1
  have HI := Lib.hid hit
  have HT := Lib.hid ht
  have HZ := Lib.hid hz
  have HY := Lib.hid (label_yes b off len cap L hi.1 w hit hz)
  have HR : Hid (∀ w', Below w.heap.size w w' → Calls Try.prog 16 #[.slice (some ⟨b, off, none⟩) len cap] w' (LabelRPost L w')) := Lib.hid fun w' h => rlabel_yes b off len cap L HL.out w' (HI.out.below h) HT.out HZ.out
  have hlp := labelP_len L
  have heq := label_eq hz
  unfold LabelYes at HY
  unfold LabelRPost at HR
  rw [← heq] at HR
  rw [← HL.out] at HY hlp
  generalize labelP L = sp at *
  rw [hlp] at HR
  have HLP := Lib.hid hlp
  clear hi hit hlp hz ht heq
  go_enter Try.func5, Try.ntmps5
  go_wp2_with fail
  refine HY.out.mono ?_
  rintro e w1 ⟨g, rfl, hg, hrow, hb1⟩
  have HS1 := Lib.hid (row_spans hrow)
  clear hrow HY
  go_wp2_with fail
  refine (HR.out _ hb1).mono ?_
  rintro e w2 ⟨v, rfl, ho, hb2⟩
  obtain ⟨va, vc, rfl⟩ := ho.len
  have hb12 := hb1.trans (hb2.mono hb1.size)
  have HS2 := Lib.hid (HS1.out.below hb2)
  clear HR HS1 hb1 hb2
  go_wp2_with fail
  go_loopw [34] (fun i wr => ∃ k : Nat, k ≤ len ∧ i = .int .i64 k ∧ Below w2.heap.size w2 wr) (fun i _ => len - (intOf i).toNat)
  case atStart => exact ⟨0, by omega, rfl, Below.refl _ _⟩
  case round =>
    obtain ⟨k, hk, rfl, hb⟩ := hrel
    by_cases hlt : k < len
    · obtain ⟨c1, c2⟩ := (HS2.out.below hb) k (by rw [HLP.out]; exact hlt)
      obtain ⟨g2, cp, hv, _, hg2, _, _⟩ := ho.shape (by omega)
      cases hv
      obtain ⟨e1, e2⟩ := spnCells_at sp k (by rw [HLP.out]; exact hlt)
      have d1 : wr.cell? ⟨g2, k * 2, none⟩ = some (.int .i64 (sp.getD k default).1) := by rw [hb.cell (by exact hg2), ho.cellAt (k * 2) (by omega), e1]
      have d2 : wr.cell? ⟨g2, k * 2 + 1, none⟩ = some (.int .i64 (sp.getD k default).2) := by rw [hb.cell (by exact hg2), ho.cellAt (k * 2 + 1) (by omega), e2]
      rw [Nat.zero_add] at c1 c2
      generalize sp.getD k default = x at c1 c2 d1 d2
      clear e1 e2
      have z1 : (0 : Int) ≤ (k : Int) := by omega
      have z2 : (k : Int) < (len : Int) := by omega
      go_wp2_with fail
      go_quiet (fail)
      go_wp2_with fail
      go_roundw
      case rel => exact ⟨k + 1, by omega, by go_num, below_drewN hb _⟩
      case measure => simp [intOf]; omega
    · obtain rfl : k = len := by omega
      go_wp2_with fail
      refine (alive_any _).mono ?_
      rintro e w4 ⟨rfl, hb4⟩
      go_wp2_with fail
      go_ret
      exact ⟨rfl, hb12.trans ((hb.trans (hb4.mono hb.size)).mono hb12.size)⟩
end Go.Proofs.Ytahdlbckcddeeaa
