/- LAYER 13 (tabula): alive. -/
import Derived.Test.YtdgapagpmdfndaaTabZa
namespace Go.Proofs.Ytdgapagpmdfndaa
open Go.RowKit
set_option linter.unusedVariables false
theorem StepOk.below {w w' : World} {B t : Nat} {F : Nat → Prop} {l l' : List Row} (h : StepOk w w' B t F l') (h0 : TabL w B t l F) (hB : B ≤ w.heap.size) : Below B w w' := by
  obtain ⟨F', _, _, hf⟩ := h
  exact hf.below hB fun x hx => (h0.lt x hx).2
set_option maxRecDepth 100000 in
set_option maxHeartbeats 1000000 in
theorem alive_any (w : World) : Calls Try.prog 11 #[] w fun e w' => e = .returned (.bool true) ∧ Below w.heap.size w w' := by
  have HNEW := Lib.hid (new_L w w.heap.size (Nat.le_refl _))
  go_enter Try.func11, Try.ntmps11
  go_wp2_with fail
  refine HNEW.out.mono ?_
  rintro e w1 ⟨t, F, rfl, ht, _, hb1⟩
  have HT1 := Lib.hid ht
  have HB1 := Lib.hid hb1
  have HP1 := Lib.hid (put_L ht (by simp) hb1.size 5 1)
  clear ht hb1
  go_wp2_with fail
  refine HP1.out.mono ?_
  rintro e w2 ⟨rfl, hs2⟩
  have hb2 := HB1.out.trans (hs2.below HT1.out HB1.out.size)
  obtain ⟨F2, ht2, _, _⟩ := hs2
  have e2 : insL [] 5 1 = [((5 : Int), (1 : Int))] := by decide
  rw [e2] at ht2
  have HT2 := Lib.hid ht2
  have HB2 := Lib.hid hb2
  have HP2 := Lib.hid (put_L ht2 (by simp) hb2.size 2 7)
  clear ht2 hb2
  go_wp2_with fail
  refine HP2.out.mono ?_
  rintro e w3 ⟨rfl, hs3⟩
  have hb3 := HB2.out.trans (hs3.below HT2.out HB2.out.size)
  obtain ⟨F3, ht3, _, _⟩ := hs3
  have e3 : insL [((5 : Int), (1 : Int))] 2 7 = [((2 : Int), (7 : Int)), (5, 1)] := by decide
  rw [e3] at ht3
  have HT3 := Lib.hid ht3
  have HB3 := Lib.hid hb3
  have hp3 := put_L ht3 (by simp) hb3.size 5 3
  have g3 : getL [((2 : Int), (7 : Int)), (5, 1)] 5 = some 1 := by decide
  rw [g3] at hp3
  have HP3 := Lib.hid hp3
  clear ht3 hb3 hp3
  go_wp2_with fail
  refine HP3.out.mono ?_
  rintro e w4 ⟨rfl, hs4⟩
  have hb4 := HB3.out.trans (hs4.below HT3.out HB3.out.size)
  obtain ⟨F4, ht4, _, _⟩ := hs4
  have e4 : insL [((2 : Int), (7 : Int)), (5, 1)] 5 3 = [((2 : Int), (7 : Int)), (5, 3)] := by decide
  rw [e4] at ht4
  have hn4 := next_L ht4 3
  have a4 : atV [((2 : Int), (7 : Int)), (5, 3)] (rankL [((2 : Int), (7 : Int)), (5, 3)] 3 : Nat) = (5, 3, true) := by decide
  rw [a4] at hn4
  unfold atR at hn4
  have HT4 := Lib.hid ht4
  have HB4 := Lib.hid hb4
  have HN4 := Lib.hid hn4
  clear ht4 hb4 hn4
  go_wp2_with fail
  refine HN4.out.mono ?_
  rintro e w5 ⟨rfl, hb5⟩
  have HB5 := Lib.hid (HB4.out.trans (hb5.mono HB4.out.size))
  have HL5 := Lib.hid (len_L (HT4.out.below hb5))
  clear hb5
  go_wp2_with fail
  refine HL5.out.mono ?_
  rintro e w6 ⟨rfl, rfl⟩
  go_wp2_with fail
  go_ret
  exact ⟨rfl, HB5.out⟩
end Go.Proofs.Ytdgapagpmdfndaa
