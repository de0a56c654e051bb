/- LAYER 13 (tabula): TabulaLoads. -/
import Derived.Test.YtdgapagpmdfndaaTabM2
import Derived.Test.YtdgapagpmdfndaaTabZe
namespace Go.Proofs.Ytdgapagpmdfndaa
open Go.RowKit
set_option linter.unusedVariables false
theorem DocAt.len {w : World} {F : Nat → Prop} {v : Value} {l : List Row} (h : DocAt w F v l) : ∃ a cap, v = .slice a l.length cap := by
  obtain ⟨a, cap, e, _⟩ := h.val
  exact ⟨a, cap, e⟩
set_option maxRecDepth 100000 in
set_option maxHeartbeats 2000000 in
theorem tabLoads_any (v0 : Value) (l : List Row) (v1 : Value) (os : List TOp) (w : World) (h0 : DocAt w (fun x => w.heap.size ≤ x) v0 l) (h1 : ScriptAt w w.heap.size v1 os) :
    Calls Try.prog 8 #[v0, v1] w fun e w' => e = .returned (.bool true) ∧ Below w.heap.size w w' := by
  obtain ⟨a, cap, rfl⟩ := h0.len
  obtain ⟨a', cap', rfl⟩ := h1.len
  have HAL := Lib.hid (alive_any w)
  obtain ⟨n, hn⟩ : ∃ n, n = l.length := ⟨_, rfl⟩
  obtain ⟨m, hm⟩ : ∃ m, m = os.length := ⟨_, rfl⟩
  have HD := Lib.hid h0
  have HO := Lib.hid h1
  rw [← hn] at HD ⊢
  rw [← hm] at HO ⊢
  have HN := Lib.hid (And.intro hn hm)
  clear h0 h1 hn hm
  by_cases hl : 1500 < n
  · go_enter Try.func8, Try.ntmps8
    go_wp2_with fail
    refine HAL.out.mono ?_
    rintro e w2 ⟨rfl, hb2⟩
    have HB2 := Lib.hid hb2
    clear hb2
    go_wp2_with fail
    go_ret
    exact ⟨rfl, HB2.out⟩
  by_cases hl2 : 500 < m
  · go_enter Try.func8, Try.ntmps8
    go_wp2_with fail
    refine HAL.out.mono ?_
    rintro e w2 ⟨rfl, hb2⟩
    have HB2 := Lib.hid hb2
    clear hb2
    go_wp2_with fail
    go_ret
    exact ⟨rfl, HB2.out⟩
  have HLD := Lib.hid (load_L HD.out (by have := HN.out.1; omega))
  go_enter Try.func8, Try.ntmps8
  go_wp2_with fail
  refine HLD.out.mono ?_
  rintro e w1 ⟨hb1, ⟨hs, t, F, rfl, ht⟩ | ⟨hs, rfl⟩⟩
  · have HS := Lib.hid hs
    have HB1 := Lib.hid hb1
    have HT := Lib.hid ht
    have HR := Lib.hid (drises_any (HD.out.below hb1) (by have := HN.out.1; omega))
    have hdF : DocAt w1 F (.slice a n cap) l := HD.out.frm (Frm.of_below (F := fun _ => False) hb1) (fun _ _ hx => hx.elim) fun x _ hx => (ht.lt x hx).2
    have HDF := Lib.hid hdF
    clear hs hb1 ht hdF
    go_wp2_with fail
    refine HR.out.mono ?_
    rintro e w2 ⟨⟨b, rfl, hb⟩, hb2⟩
    obtain rfl : b = true := hb.2 HS.out
    have HS2 := Lib.hid ((St.mk HT.out HDF.out HB1.out).step hb2)
    clear hb hb2
    have HST := Lib.hid (stands_L HS2.out.tab HS2.out.doc)
    go_wp2_with fail
    refine HST.out.mono ?_
    rintro e w3 ⟨rfl, hb3⟩
    have HS3 := Lib.hid (HS2.out.step hb3)
    clear hb3
    have HP := Lib.hid (plays_L HS3.out.tab HS3.out.doc (HO.out.below HS3.out.bel) HS3.out.bel.size (by have := HN.out; omega))
    go_wp2_with fail
    refine HP.out.mono ?_
    rintro e w4 ⟨lv, F2, rfl, ht4, hd4, hb4, _, _⟩
    have HS4 := Lib.hid (St.mk ht4 hd4 (HS3.out.bel.trans hb4))
    obtain ⟨la, lc, rfl, _⟩ := hd4.val
    clear ht4 hd4 hb4
    have HAL4 := Lib.hid (alive_any w4)
    go_wp2_with fail
    refine HAL4.out.mono ?_
    rintro e w5 ⟨rfl, hb5⟩
    have HS5 := Lib.hid (HS4.out.step hb5)
    clear hb5
    have HST5 := Lib.hid (stands_L HS5.out.tab HS5.out.doc)
    go_wp2_with fail
    refine HST5.out.mono ?_
    rintro e w6 ⟨rfl, hb6⟩
    have HS6 := Lib.hid (HS5.out.step hb6)
    clear hb6
    go_wp2_with fail
    go_ret
    exact ⟨rfl, HS6.out.bel⟩
  · have HS := Lib.hid hs
    have HB1 := Lib.hid hb1
    have HR := Lib.hid (drises_any (HD.out.below hb1) (by have := HN.out.1; omega))
    clear hs hb1
    go_wp2_with fail
    refine HR.out.mono ?_
    rintro e w2 ⟨⟨b, rfl, hb⟩, hb2⟩
    obtain rfl : b = false := by
      cases b
      · rfl
      · exact absurd (hb.1 rfl) HS.out
    have HB2 := Lib.hid (HB1.out.trans (hb2.mono HB1.out.size))
    have HAL2 := Lib.hid (alive_any w2)
    clear hb hb2
    go_wp2_with fail
    refine HAL2.out.mono ?_
    rintro e w3 ⟨rfl, hb3⟩
    have HB3 := Lib.hid (HB2.out.trans (hb3.mono HB2.out.size))
    clear hb3
    go_wp2_with fail
    go_ret
    exact ⟨rfl, HB3.out⟩
end Go.Proofs.Ytdgapagpmdfndaa
