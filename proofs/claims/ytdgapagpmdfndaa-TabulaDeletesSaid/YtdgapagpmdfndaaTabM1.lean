/- LAYER 13 (tabula): TabulaAll. -/
import Derived.Test.YtdgapagpmdfndaaTabZc
namespace Go.Proofs.Ytdgapagpmdfndaa
open Go.RowKit
set_option linter.unusedVariables false
theorem ScriptAt.len {w : World} {B : Nat} {v : Value} {os : List TOp} (h : ScriptAt w B v os) : ∃ a cap, v = .slice a os.length cap := by
  obtain ⟨a, cap, e, _⟩ := h
  exact ⟨a, cap, e⟩
set_option maxRecDepth 100000 in
set_option maxHeartbeats 1000000 in
theorem tabAll_any (v : Value) (os : List TOp) (w : World) (h : ScriptAt w w.heap.size v os) :
    Calls Try.prog 3 #[v] w fun e w' => e = .returned (.bool true) ∧ Below w.heap.size w w' := by
  have HNEW := Lib.hid (new_L w w.heap.size (Nat.le_refl _))
  obtain ⟨a, cap, rfl⟩ := h.len
  obtain ⟨n, hn⟩ : ∃ n, n = os.length := ⟨_, rfl⟩
  rw [← hn] at h ⊢
  have H := Lib.hid h
  have HN := Lib.hid hn
  clear h hn
  by_cases hl : 1500 < n
  · go_enter Try.func3, Try.ntmps3
    go_wp2_with fail
    refine HNEW.out.mono ?_
    rintro e w1 ⟨t, F, rfl, ht, _, hb1⟩
    have HB1 := Lib.hid hb1
    have HAL := Lib.hid (alive_any w1)
    clear ht hb1
    go_wp2_with fail
    refine HAL.out.mono ?_
    rintro e w2 ⟨rfl, hb2⟩
    have HB2 := Lib.hid (HB1.out.trans (hb2.mono HB1.out.size))
    clear hb2
    go_wp2_with fail
    go_ret
    exact ⟨rfl, HB2.out⟩
  · go_enter Try.func3, Try.ntmps3
    go_wp2_with fail
    refine HNEW.out.mono ?_
    rintro e w1 ⟨t, F, rfl, ht, _, hb1⟩
    have HB1 := Lib.hid hb1
    have HP := Lib.hid (plays_L ht (DocAt.nil w1 F) (H.out.below hb1) hb1.size (by simp; have := HN.out; omega))
    clear ht hb1
    go_wp2_with fail
    refine HP.out.mono ?_
    rintro e w2 ⟨lv, F2, rfl, ht2, hd2, hb2, _, _⟩
    have HB2 := Lib.hid (HB1.out.trans hb2)
    have HT2 := Lib.hid (And.intro ht2 hd2)
    obtain ⟨la, lc, rfl, _⟩ := hd2.val
    have HAL := Lib.hid (alive_any w2)
    clear ht2 hd2 hb2
    go_wp2_with fail
    refine HAL.out.mono ?_
    rintro e w3 ⟨rfl, hb3⟩
    have HB3 := Lib.hid (HB2.out.trans (hb3.mono HB2.out.size))
    have HS := Lib.hid (stands_L (HT2.out.1.below hb3) (HT2.out.2.below hb3))
    clear hb3
    go_wp2_with fail
    refine HS.out.mono ?_
    rintro e w4 ⟨rfl, hb4⟩
    have HB4 := Lib.hid (HB3.out.trans (hb4.mono HB3.out.size))
    clear hb4
    go_wp2_with fail
    go_ret
    exact ⟨rfl, HB4.out⟩
end Go.Proofs.Ytdgapagpmdfndaa
