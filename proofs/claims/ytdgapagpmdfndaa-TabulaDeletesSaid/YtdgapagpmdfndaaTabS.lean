/- LAYER 13 (tabula): Delete on a table. -/
import Derived.Test.YtdgapagpmdfndaaTabR
import Derived.Test.YtdgapagpmdfndaaTabM
namespace Go.Proofs.Ytdgapagpmdfndaa
open Go.RowKit
set_option linter.unusedVariables false
/-- How high the root of a table stands. -/
def rootH (t f : Nat) (w : World) : Nat := match w.cell? ⟨t, 0, none⟩ with | some v => hgt w f (blockOf v) | none => 0
theorem rootH_of {t f p : Nat} {w : World} (h : w.cell? ⟨t, 0, none⟩ = some (.pointer (some ⟨p, 0, none⟩))) : rootH t f w = hgt w f p := by unfold rootH; rw [h]; rfl
theorem TreeAt.subs {w : World} {B d : Nat} {c : Kid} (t : TreeAt w B 1 d c) : ∃ sa n sc, w.cell? ⟨c.p, 1, none⟩ = some (.slice sa n sc) ∧ (n ≠ 1 → d = 0 ∨ c.e = n) ∧
    (n = 1 → c.e = 1 ∧ ∃ d' c' g, d = d' + 1 ∧ sa = some ⟨g, 0, none⟩ ∧ w.cell? ⟨g, 0, none⟩ = some (.pointer (some ⟨c'.p, 0, none⟩)) ∧ TreeAt w B 1 d' c' ∧ 1 ≤ c'.e ∧ c'.e ≤ 8 ∧ c'.L = c.L ∧ ∀ x, c'.F x → c.F x) := by
  cases d with
  | zero =>
    obtain ⟨rv, sv, hn, he, hF⟩ := t
    obtain ⟨sa, sc, rfl⟩ := hn.ss.len
    exact ⟨sa, 0, sc, hn.cells.2.1, fun _ => .inl rfl, fun h => by cases h⟩
  | succ d0 =>
    obtain ⟨rv, sv, ks, hn, he, hL, hF, hc, _⟩ := t
    obtain ⟨sa, sc, rfl⟩ := hn.ss.len
    refine ⟨sa, (kidsP ks).length, sc, hn.cells.2.1, fun _ => .inr (by rw [kidsP_len]; exact he), fun h1 => ?_⟩
    rw [kidsP_len] at h1
    obtain ⟨g, cap, hv, _⟩ := hn.ss.shape (by rw [kidsP_len]; omega)
    cases hv
    match ks, h1 with
    | [c'], _ =>
      have d := hn.ss.cellAt 0 (by simp [kidsP])
      refine ⟨he, d0, c', g, rfl, rfl, d, (hc c' (by simp)).1, (hc c' (by simp)).2.1, (hc c' (by simp)).2.2, ?_, fun x hx => ?_⟩
      · rw [hL]; simp [kidsL]
      · rw [hF]; exact .inr ⟨c', by simp, hx⟩
set_option maxRecDepth 100000 in
set_option maxHeartbeats 2000000 in
theorem delT_any {B t : Nat} {w : World} {h : Nat} {k : Kid} (a : TabAt w B 1 h t k) (hh : h + 1 ≤ 2 + halvesN k.L.length) (hB : B ≤ w.heap.size) (key : Int) :
    Calls Try.prog 17 #[.pointer (some ⟨t, 0, none⟩), .int .i64 key] w fun e w' => e = .returned (.tuple #[.int .i64 ((getL k.L key).getD 0), .bool (getL k.L key).isSome]) ∧ PutT w w' B 1 t k (delL k.L key) := by
  have hh2 : h ≤ 940000 := by have := halvesN_le k.L.length; have := a.many; omega
  have c1 := a.cell
  have HA := Lib.hid a
  have HP := Lib.hid (drop_any h a.tree (a.pos.imp id (by omega)) a.e8 a.srt (by have := a.many; omega) hB key)
  obtain ⟨r, hr⟩ : ∃ r, r = getL k.L key := ⟨_, rfl⟩
  obtain ⟨L', hL'⟩ : ∃ L', L' = delL k.L key := ⟨_, rfl⟩
  rw [← hr] at HP ⊢
  have HL' := Lib.hid hL'
  rw [← hL']
  have hlen : L'.length ≤ 900000 := by rw [hL']; exact Nat.le_trans (List.length_filter_le _ _) a.many
  have hsrt := delL_sorted a.srt key
  rw [← hL'] at hsrt
  have HS := Lib.hid hsrt
  have htF := Lib.hid a.no
  have htl : t < w.heap.size := lt_of_block a.row
  have hbt := a.bt
  clear hr hL' hsrt a
  go_enter Try.func17, Try.ntmps17
  go_wp2_with fail
  refine HP.out.mono ?_
  rintro e w1 ⟨rfl, k1, hp1, ht1, hl1, he1, hF1, hf1⟩
  rw [← HL'.out] at hl1
  have c2 := (hf1.cell (p := ⟨t, 0, none⟩) (by exact htl) htF.out).trans c1
  have ht1F : ¬ k1.F t := fun hx => by rcases hF1 t hx with h1 | h1; exact htF.out h1; omega
  have hrow1 := (hf1.block t htl htF.out).trans HA.out.row
  rw [← hp1] at c2 hrow1
  have hsz1 : w.heap.size ≤ w1.heap.size := hf1.size
  have hBw : B ≤ w1.heap.size := by omega
  have he8 : k1.e ≤ 8 := Nat.le_trans he1 HA.out.e8
  have HI0 : Hid (TreeAt w1 B 1 h k1 ∧ k1.L = L' ∧ k1.e ≤ 8 ∧ (∀ x, k1.F x → k1.F x) ∧ Frm (fun x => x = t) w1 w1 ∧ w1.heap[t]? = some (.cells #[.pointer (some ⟨k1.p, 0, none⟩)] 61 (0, 0))) := Lib.hid ⟨ht1, hl1, he8, fun x hx => hx, Frm.refl _ _, hrow1⟩
  have HF1 := Lib.hid (And.intro hF1 hf1)
  have HTN := Lib.hid ht1F
  clear ht1 hl1 he1 hF1 hf1 hrow1 ht1F hp1 he8
  go_wp2_with fail
  go_loopw [] (fun wr => ∃ (d : Nat) (c : Kid), d ≤ h ∧ wr.cell? ⟨t, 0, none⟩ = some (.pointer (some ⟨c.p, 0, none⟩)) ∧ Hid (TreeAt wr B 1 d c ∧ c.L = L' ∧ c.e ≤ 8 ∧ (∀ x, c.F x → k1.F x) ∧ Frm (fun x => x = t) w1 wr ∧ wr.heap[t]? = some (.cells #[.pointer (some ⟨c.p, 0, none⟩)] 61 (0, 0)))) (fun wr => rootH t h wr)
  case atStart => exact ⟨h, k1, Nat.le_refl _, c2, HI0⟩
  case round =>
    obtain ⟨d, c, hd, hcc, HC⟩ := hrel
    obtain ⟨sa, n, sc, b1, hn1, hn2⟩ := HC.out.1.subs
    have hm2 := HC.out.1.cell
    rw [HC.out.2.1] at hm2
    by_cases h1 : n = 1
    · obtain ⟨he1, d', c', g, hd', rfl, hg, ht', hc1, hc8, hcL, hcF⟩ := hn2 h1
      subst h1
      obtain ⟨htr, hL, h8, hF, hf, hrow⟩ := HC.out
      have hft := free_row hrow 0
      have HM := Lib.hid (hgt_of' (Nat.le_refl 1) h htr (.inr (by omega)) hd)
      have HR := Lib.hid (rootH_of (f := h) hcc)
      have hfs : Frm (fun x => x = t) w1 (wr.setCell ⟨t, 0, none⟩ (.pointer (some ⟨c'.p, 0, none⟩))) := hf.setCell (p := ⟨t, 0, none⟩) (.inl rfl) _
      have hrow' : (wr.setCell ⟨t, 0, none⟩ (.pointer (some ⟨c'.p, 0, none⟩))).heap[t]? = some (.cells #[.pointer (some ⟨c'.p, 0, none⟩)] 61 (0, 0)) := by
        rw [heap_setCell_same _ _ _ _ _ _ hrow]; rfl
      have hfw : Frm (fun x => x = t) wr (wr.setCell ⟨t, 0, none⟩ (.pointer (some ⟨c'.p, 0, none⟩))) := (Frm.refl (fun x => x = t) wr).setCell (p := ⟨t, 0, none⟩) (.inl rfl) _
      have ht2 : TreeAt (wr.setCell ⟨t, 0, none⟩ (.pointer (some ⟨c'.p, 0, none⟩))) B 1 d' c' := ht'.frm hfw fun x hx e => HTN.out (by rw [← e]; exact hF x (hcF x hx))
      have hcell' : (wr.setCell ⟨t, 0, none⟩ (.pointer (some ⟨c'.p, 0, none⟩))).cell? ⟨t, 0, none⟩ = some (.pointer (some ⟨c'.p, 0, none⟩)) := by rw [cell_of_row _ _ 0 _ _ _ hrow']; rfl
      have HC2 : Hid (TreeAt (wr.setCell ⟨t, 0, none⟩ (.pointer (some ⟨c'.p, 0, none⟩))) B 1 d' c' ∧ c'.L = L' ∧ c'.e ≤ 8 ∧ (∀ x, c'.F x → k1.F x) ∧ Frm (fun x => x = t) w1 (wr.setCell ⟨t, 0, none⟩ (.pointer (some ⟨c'.p, 0, none⟩))) ∧ (wr.setCell ⟨t, 0, none⟩ (.pointer (some ⟨c'.p, 0, none⟩))).heap[t]? = some (.cells #[.pointer (some ⟨c'.p, 0, none⟩)] 61 (0, 0))) :=
        Lib.hid ⟨ht2, hcL.trans hL, hc8, fun x hx => hF x (hcF x hx), hfs, hrow'⟩
      have HM2 := Lib.hid (hgt_of' (Nat.le_refl 1) h ht2 (.inr hc1) (by omega))
      have HR2 := Lib.hid (rootH_of (f := h) hcell')
      have HCL := Lib.hid hcell'
      have HD := Lib.hid (And.intro hd' hd)
      clear hn1 hn2 he1 hd' ht' hc1 hc8 hcL hcF htr hL h8 hF hf hrow hfs hrow' hfw ht2 hcell' HC
      go_wp2_with fail
      go_roundw
      case rel => exact ⟨d', c', by have := HD.out; omega, HCL.out, HC2⟩
      case measure =>
        rw [HR.out, HM.out, HR2.out, HM2.out, HD.out.1]
        exact Nat.lt_succ_self _
    · have h1i : ((n : Int) == 1) = false := by simp; omega
      have h1j : ¬ (n : Int) = 1 := by omega
      have hfall : Frm (tabF t k) w wr := (HF1.out.2.weak (G := tabF t k) fun x _ hx => .inr hx).then HC.out.2.2.2.2.1 fun x _ e => .inl e
      by_cases hz : L'.length = 0
      · rw [hz] at hm2
        have hm2 : wr.cell? ⟨c.p, 2, none⟩ = some (.int .i64 0) := hm2
        have hL0 : L' = [] := List.eq_nil_of_length_eq_zero hz
        obtain ⟨htr, hL, h8, hF, hf, hrow⟩ := HC.out
        have htr2 : t < wr.heap.size := lt_of_block hrow
        have hBr : B ≤ wr.heap.size := Nat.le_trans hBw hf.size
        have hnl := new_leaf wr B 1 hBr
        have hbA := (Below.refl wr.heap.size wr).alloc (Nat.le_refl _) (.cells #[.slice none 0 0, .slice none 0 0, .int .i64 0] 59)
        have hrowA := (hbA.block t htr2).trans hrow
        have hfz := free_row hrowA 0
        have hrow' : ((wr.alloc (.cells #[.slice none 0 0, .slice none 0 0, .int .i64 0] 59)).setCell ⟨t, 0, none⟩ (.pointer (some ⟨wr.heap.size, 0, none⟩))).heap[t]? = some (.cells #[.pointer (some ⟨wr.heap.size, 0, none⟩)] 61 (0, 0)) := by
          rw [heap_setCell_same _ _ _ _ _ _ hrowA]; rfl
        have hfw : Frm (fun x => x = t) (wr.alloc (.cells #[.slice none 0 0, .slice none 0 0, .int .i64 0] 59)) ((wr.alloc (.cells #[.slice none 0 0, .slice none 0 0, .int .i64 0] 59)).setCell ⟨t, 0, none⟩ (.pointer (some ⟨wr.heap.size, 0, none⟩))) := (Frm.refl (fun x => x = t) _).setCell (p := ⟨t, 0, none⟩) (.inl rfl) _
        have ht2 := hnl.frm hfw fun x hx e => by have := nil_F hx; omega
        have hta : TabAt ((wr.alloc (.cells #[.slice none 0 0, .slice none 0 0, .int .i64 0] 59)).setCell ⟨t, 0, none⟩ (.pointer (some ⟨wr.heap.size, 0, none⟩))) B 1 0 t ⟨wr.heap.size, 0, [], nodeF wr.heap.size (.slice none 0 0) (.slice none 0 0)⟩ :=
          ⟨hrow', ht2, fun hx => by have := nil_F hx; omega, hbt, Nat.zero_le _, .inl rfl, List.Pairwise.nil, Nat.zero_le _⟩
        have hfe : Frm (tabF t k) w ((wr.alloc (.cells #[.slice none 0 0, .slice none 0 0, .int .i64 0] 59)).setCell ⟨t, 0, none⟩ (.pointer (some ⟨wr.heap.size, 0, none⟩))) := (hfall.alloc _).setCell (p := ⟨t, 0, none⟩) (.inl (.inl rfl)) _
        rw [World.setCell_alloc_past _ _ _ _ htr2] at hta hfe
        have HME := Lib.hid (mend_any hta (by omega) (by simp [World.setCell]; omega))
        have HFE := Lib.hid hfe
        have HSZ := Lib.hid hfall.size
        clear hta hfe hfall hrow' hfw ht2 hnl hbA hrowA hf hF htr hL h8 hn1 hn2 HC
        go_wp2_with fail
        refine HME.out.mono ?_
        rintro e w5 ⟨⟨u, rfl⟩, hmo⟩
        have HMO := Lib.hid hmo
        clear hmo
        go_wp2_with fail
        go_ret2
        refine ⟨rfl, HMO.out.put hL0.symm (fun x hx => .inr ?_) HFE.out⟩
        rw [nil_F hx]; exact HSZ.out
      · have hne : ¬ ((L'.length : Nat) : Int) = 0 := by omega
        have hneb : (((L'.length : Nat) : Int) == 0) = false := by simpa using hne
        have hta : TabAt wr B 1 d t c := by
          obtain ⟨htr, hL, h8, hF, hf, hrow⟩ := HC.out
          refine ⟨hrow, htr, fun hx => HTN.out (hF t hx), hbt, h8, ?_, by rw [hL]; exact HS.out, by rw [hL]; exact hlen⟩
          rcases hn1 h1 with h2 | h2
          · exact .inl h2
          · refine .inr ?_
            rcases Nat.eq_zero_or_pos c.e with h3 | h3
            · have := htr.zero h3
              rw [hL] at this
              rw [this] at hz
              exact absurd rfl hz
            · omega
        have hBr : B ≤ wr.heap.size := Nat.le_trans hBw HC.out.2.2.2.2.1.size
        have HME := Lib.hid (mend_any hta (by omega) hBr)
        have HFE := Lib.hid hfall
        have HLF := Lib.hid (And.intro HC.out.2.1 HC.out.2.2.2.1)
        clear hta hfall hn1 hn2 HC
        go_wp2_with fail
        refine HME.out.mono ?_
        rintro e w5 ⟨⟨u, rfl⟩, hmo⟩
        have HMO := Lib.hid hmo
        clear hmo
        go_wp2_with fail
        go_ret2
        exact ⟨rfl, HMO.out.put HLF.out.1 (fun x hx => HF1.out.1 x (HLF.out.2 x hx)) HFE.out⟩
end Go.Proofs.Ytdgapagpmdfndaa
