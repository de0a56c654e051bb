/- LAYER 13 (tabula): TabulaAsks. -/
import Derived.Test.YtdgapagpmdfndaaTabM1
import Derived.Test.YtdgapagpmdfndaaTabZd
namespace Go.Proofs.Ytdgapagpmdfndaa
open Go.RowKit
set_option linter.unusedVariables false
/-- A table and the document's rows, behind calls that began at w0. -/
structure St (w0 : World) (t : Nat) (l : List Row) (F : Nat → Prop) (lv : Value) (w : World) : Prop where
  tab : TabL w w0.heap.size t l F
  doc : DocAt w F lv l
  bel : Below w0.heap.size w0 w
theorem St.step {w0 : World} {t : Nat} {l : List Row} {F : Nat → Prop} {lv : Value} {w w' : World} (h : St w0 t l F lv w) (hb : Below w.heap.size w w') : St w0 t l F lv w' :=
  ⟨h.tab.below hb, h.doc.below hb, h.bel.trans (hb.mono h.bel.size)⟩
set_option maxRecDepth 100000 in
set_option maxHeartbeats 2000000 in
theorem tabAsks_any (v : Value) (os : List TOp) (key m : Int) (w : World) (h : ScriptAt w w.heap.size v os) :
    Calls Try.prog 9 #[v, .int .i64 key, .int .i64 m] w fun e w' => e = .returned (.bool true) ∧ Below w.heap.size w w' := by
  have HNEW := Lib.hid (new_L w w.heap.size (Nat.le_refl _))
  obtain ⟨a, cap, rfl⟩ := h.len
  obtain ⟨n, hn⟩ : ∃ n, n = os.length := ⟨_, rfl⟩
  rw [← hn] at h ⊢
  have H := Lib.hid h
  have HN := Lib.hid hn
  clear h hn
  by_cases hl : 1500 < n
  · go_enter Try.func9, Try.ntmps9
    go_wp2_with fail
    refine HNEW.out.mono ?_
    rintro e w1 ⟨t, F, rfl, ht, _, hb1⟩
    have HB1 := Lib.hid hb1
    have HAL := Lib.hid (alive_any w1)
    clear ht hb1
    go_wp2_with fail
    refine HAL.out.mono ?_
    rintro e w2 ⟨rfl, hb2⟩
    have HB2 := Lib.hid (HB1.out.trans (hb2.mono HB1.out.size))
    clear hb2
    go_wp2_with fail
    go_ret
    exact ⟨rfl, HB2.out⟩
  · go_enter Try.func9, Try.ntmps9
    go_wp2_with fail
    refine HNEW.out.mono ?_
    rintro e w1 ⟨t, F, rfl, ht, _, hb1⟩
    have HB1 := Lib.hid hb1
    have HP := Lib.hid (plays_L ht (DocAt.nil w1 F) (H.out.below hb1) hb1.size (by simp; have := HN.out; omega))
    clear ht hb1
    go_wp2_with fail
    refine HP.out.mono ?_
    rintro e w2 ⟨lv, F2, rfl, ht2, hd2, hb2, _, _⟩
    generalize playL [] os = l at *
    have HS2 := Lib.hid (St.mk ht2 hd2 (HB1.out.trans hb2))
    have hsrt := ht2.srt
    have hmany := ht2.many
    obtain ⟨la, lc, rfl, _⟩ := hd2.val
    clear ht2 hd2 hb2
    have HSR := Lib.hid hsrt
    have HMA := Lib.hid hmany
    clear hsrt hmany
    obtain ⟨⟨g1, g2⟩, hg⟩ : ∃ g : Int × Bool, g = ((getL l key).getD 0, (getL l key).isSome) := ⟨_, rfl⟩
    obtain ⟨rk, hrk⟩ : ∃ rk, rk = rankL l key := ⟨_, rfl⟩
    have hrl : rk ≤ 900000 := by rw [hrk]; exact Nat.le_trans (rankL_le _ _) HMA.out
    obtain ⟨⟨x1, x2, x3⟩, hx⟩ : ∃ x, x = atV l (rk : Int) := ⟨_, rfl⟩
    obtain ⟨⟨y1, y2, y3⟩, hy⟩ : ∃ y, y = backV l key := ⟨_, rfl⟩
    obtain ⟨⟨z1, z2, z3⟩, hz⟩ : ∃ z, z = atV l m := ⟨_, rfl⟩
    have hget := get_L HS2.out.tab key
    have hge1 : (getL l key).getD 0 = g1 := (congrArg Prod.fst hg).symm
    have hge2 : (getL l key).isSome = g2 := (congrArg Prod.snd hg).symm
    rw [hge1, hge2] at hget
    have HG := Lib.hid (And.intro hge1 hge2)
    have HX := Lib.hid (And.intro hrk (And.intro hx (And.intro hy hz)))
    have HGET := Lib.hid hget
    clear hg hrk hx hy hz hget hge1 hge2
    go_wp2_with fail
    refine HGET.out.mono ?_
    rintro e w3 ⟨rfl, hb3⟩
    have HS3 := Lib.hid (HS2.out.step hb3)
    clear hb3
    have hdg := dget_any HS3.out.doc HSR.out HMA.out key
    rw [HG.out.1, HG.out.2] at hdg
    have HDG := Lib.hid hdg
    clear hdg
    go_wp2_with fail
    refine HDG.out.mono ?_
    rintro e w4 ⟨rfl, rfl⟩
    have hrank := rank_L HS3.out.tab key
    rw [← HX.out.1] at hrank
    have HRK := Lib.hid hrank
    clear hrank
    go_wp2_with fail
    refine HRK.out.mono ?_
    rintro e w5 ⟨rfl, hb5⟩
    have HS5 := Lib.hid (HS3.out.step hb5)
    clear hb5
    have hdr := drank_any HS5.out.doc HMA.out key
    rw [← HX.out.1] at hdr
    have HDR := Lib.hid hdr
    clear hdr
    go_wp2_with fail
    refine HDR.out.mono ?_
    rintro e w6 ⟨rfl, rfl⟩
    have hnx := next_L HS5.out.tab key
    rw [← HX.out.1, ← HX.out.2.1] at hnx
    unfold atR at hnx
    have HNX := Lib.hid hnx
    clear hnx
    go_wp2_with fail
    refine HNX.out.mono ?_
    rintro e w7 ⟨rfl, hb7⟩
    have HS7 := Lib.hid (HS5.out.step hb7)
    clear hb7
    have hdr := drank_any HS7.out.doc HMA.out key
    rw [← HX.out.1] at hdr
    have HDR7 := Lib.hid hdr
    clear hdr
    go_wp2_with fail
    refine HDR7.out.mono ?_
    rintro e w8 ⟨rfl, rfl⟩
    have hda := dat_any HS7.out.doc (rk : Int)
    rw [← HX.out.2.1] at hda
    unfold atR at hda
    have HDA := Lib.hid hda
    clear hda
    go_wp2_with fail
    refine HDA.out.mono ?_
    rintro e w9 ⟨rfl, hb9⟩
    have HS9 := Lib.hid (HS7.out.step hb9)
    clear hb9
    have hbk := back_L HS9.out.tab key
    rw [← HX.out.2.2.1] at hbk
    unfold atR at hbk
    have HBK := Lib.hid hbk
    clear hbk
    go_wp2_with fail
    refine HBK.out.mono ?_
    rintro e w10 ⟨rfl, hb10⟩
    have HS10 := Lib.hid (HS9.out.step hb10)
    clear hb10
    have hdb := dback_any HS10.out.doc HSR.out HMA.out key
    rw [← HX.out.2.2.1] at hdb
    unfold atR at hdb
    have HDB := Lib.hid hdb
    clear hdb
    go_wp2_with fail
    refine HDB.out.mono ?_
    rintro e w11 ⟨rfl, hb11⟩
    have HS11 := Lib.hid (HS10.out.step hb11)
    clear hb11
    have hat := at_L HS11.out.tab m
    rw [← HX.out.2.2.2] at hat
    unfold atR at hat
    have HAT := Lib.hid hat
    clear hat
    go_wp2_with fail
    refine HAT.out.mono ?_
    rintro e w12 ⟨rfl, hb12⟩
    have HS12 := Lib.hid (HS11.out.step hb12)
    clear hb12
    have hda := dat_any HS12.out.doc m
    rw [← HX.out.2.2.2] at hda
    unfold atR at hda
    have HDA12 := Lib.hid hda
    clear hda
    go_wp2_with fail
    refine HDA12.out.mono ?_
    rintro e w13 ⟨rfl, hb13⟩
    have HS13 := Lib.hid (HS12.out.step hb13)
    clear hb13
    have HAL := Lib.hid (alive_any w13)
    go_wp2_with fail
    refine HAL.out.mono ?_
    rintro e w14 ⟨rfl, hb14⟩
    have HS14 := Lib.hid (HS13.out.step hb14)
    clear hb14
    go_wp2_with fail
    go_ret
    exact ⟨rfl, HS14.out.bel⟩
end Go.Proofs.Ytdgapagpmdfndaa
