/- LAYER 13 (tabula): a call on the document's rows; plays. -/
import Derived.Test.YtdgapagpmdfndaaTabZ
namespace Go.Proofs.Ytdgapagpmdfndaa
open Go.RowKit
set_option linter.unusedVariables false
set_option maxRecDepth 100000 in
set_option maxHeartbeats 1000000 in
theorem ddo_L {w : World} {F : Nat → Prop} {lv : Value} {l : List Row} (hd : DocAt w F lv l) (hF : ∀ x, F x → x < w.heap.size) (hs : Sorted l) (hl : l.length ≤ 900000) (o : TOp) :
    Calls Try.prog 30 #[lv, opV o] w fun e w' => ∃ lv', e = .returned (.tuple #[lv', .int .i64 (stepV l o).1, .bool (stepV l o).2]) ∧ DocAt w' F lv' (stepL l o) ∧ Below w.heap.size w w' := by
  obtain ⟨o1, o2, o3⟩ := o
  have hbx : Below w.heap.size w (w.alloc (.cells #[.int .i64 o1, .int .i64 o2, .int .i64 o3] 63)) := (Below.refl _ _).alloc (Nat.le_refl _) _
  have hd2 := hd.below hbx
  have HD := Lib.hid hd2
  have HBX := Lib.hid hbx
  unfold opV
  by_cases h0 : o1 = 0
  · subst h0
    have H := Lib.hid (dput_any hd2 hs hl o2 o3)
    simp only [stepV, stepL, true_or, if_true]
    obtain ⟨a, cap, rfl, _⟩ := hd.val
    clear hd hd2 hbx
    go_enter Try.func30, Try.ntmps30
    go_wp2_with fail
    refine H.out.mono ?_
    rintro e w2 ⟨lv', rfl, ho, hb⟩
    have HE := Lib.hid (And.intro ho hb)
    obtain ⟨va, vc, rfl⟩ := ho.len
    clear ho hb
    go_wp2_with fail
    go_ret3
    exact ⟨_, rfl, .of_own HE.out.1 fun x hx => Nat.lt_of_lt_of_le (hF x hx) HBX.out.size, HBX.out.trans (HE.out.2.mono HBX.out.size)⟩
  · by_cases h1 : o1 = 1
    · subst h1
      have H := Lib.hid (ddel_any hd2 hs hl o2)
      simp only [stepV, stepL, or_true, if_true, if_neg h0]
      obtain ⟨a, cap, rfl, _⟩ := hd.val
      clear hd hd2 hbx
      go_enter Try.func30, Try.ntmps30
      go_wp2_with fail
      refine H.out.mono ?_
      rintro e w2 ⟨lv', rfl, ho, hb⟩
      have HE := Lib.hid (And.intro ho hb)
      obtain ⟨va, vc, rfl⟩ := ho.len
      clear ho hb
      go_wp2_with fail
      go_ret3
      exact ⟨_, rfl, .of_own HE.out.1 fun x hx => Nat.lt_of_lt_of_le (hF x hx) HBX.out.size, HBX.out.trans (HE.out.2.mono HBX.out.size)⟩
    · simp only [stepV, stepL, h0, h1, or_self, if_false]
      have hb0 : (o1 == 0) = false := by simpa using h0
      have hb1 : (o1 == 1) = false := by simpa using h1
      obtain ⟨a, cap, rfl, _⟩ := hd.val
      clear hd hd2 hbx
      go_enter Try.func30, Try.ntmps30
      go_wp2_with fail
      go_ret3
      exact ⟨_, rfl, HD.out, HBX.out⟩
/-- A script of calls, in memory below B. -/
def ScriptAt (w : World) (B : Nat) (v : Value) (os : List TOp) : Prop := ∃ a cap, v = .slice a os.length cap ∧ (0 < os.length → ∃ b off, a = some ⟨b, off, none⟩ ∧ b < B ∧ ∀ i, i < os.length → w.cell? ⟨b, off + i * 3, none⟩ = some (.int .i64 (os.getD i default).1) ∧ w.cell? ⟨b, off + i * 3 + 1, none⟩ = some (.int .i64 (os.getD i default).2.1) ∧ w.cell? ⟨b, off + i * 3 + 2, none⟩ = some (.int .i64 (os.getD i default).2.2))
theorem ScriptAt.below {w w' : World} {B : Nat} {v : Value} {os : List TOp} (h : ScriptAt w B v os) (hb : Below B w w') : ScriptAt w' B v os := by
  obtain ⟨a, cap, h1, h2⟩ := h
  refine ⟨a, cap, h1, fun h0 => ?_⟩
  obtain ⟨b, off, e, hlt, hc⟩ := h2 h0
  refine ⟨b, off, e, hlt, fun i hi => ?_⟩
  obtain ⟨c1, c2, c3⟩ := hc i hi
  exact ⟨(hb.cell (by exact hlt)).trans c1, (hb.cell (by exact hlt)).trans c2, (hb.cell (by exact hlt)).trans c3⟩
/-- The rows behind calls. -/
def playL (l : List Row) (os : List TOp) : List Row := os.foldl stepL l
theorem playL_snoc (l : List Row) (os : List TOp) (o : TOp) : playL l (os ++ [o]) = stepL (playL l os) o := by simp [playL]
set_option maxRecDepth 100000 in
set_option maxHeartbeats 2000000 in
theorem plays_L {w : World} {B t : Nat} {l : List Row} {F : Nat → Prop} {lv sv : Value} {os : List TOp} (h : TabL w B t l F) (hd : DocAt w F lv l) (hs : ScriptAt w B sv os) (hB : B ≤ w.heap.size) (hK : l.length + os.length ≤ 800000) :
    Calls Try.prog 12 #[.pointer (some ⟨t, 0, none⟩), lv, sv] w fun e w' => ∃ lv' F', e = .returned (.tuple #[lv', .bool true]) ∧ TabL w' B t (playL l os) F' ∧ DocAt w' F' lv' (playL l os) ∧ Below B w w' ∧ (∀ x, F' x → F x ∨ w.heap.size ≤ x) ∧ Frm F w w' := by
  obtain ⟨sa, sc, rfl, hsc⟩ := hs
  have HSC := Lib.hid hsc
  obtain ⟨n, hnn⟩ : ∃ n, n = os.length := ⟨_, rfl⟩
  have HN := Lib.hid hnn
  rw [← hnn] at hK ⊢
  have HI0 : Hid (TabL w B t l F ∧ DocAt w F lv l ∧ l = playL l (os.take 0) ∧ Below B w w ∧ (∀ x, F x → F x ∨ w.heap.size ≤ x) ∧ Frm F w w) := Lib.hid ⟨h, hd, by simp [playL], Below.refl _ _, fun x hx => .inl hx, Frm.refl _ _⟩
  obtain ⟨la, lc, rfl, _⟩ := hd.val
  clear hsc hnn h hd
  go_enter Try.func12, Try.ntmps12
  go_wp2_with fail
  go_loopw [1, 17] (fun lvv iv wr => ∃ (i : Nat) (l' : List Row) (F' : Nat → Prop) (xa : Option Addr) (xc : Nat), i ≤ n ∧ lvv = .slice xa l'.length xc ∧ iv = .int .i64 (i : Int) ∧ l'.length ≤ l.length + i ∧
    Hid (TabL wr B t l' F' ∧ DocAt wr F' (.slice xa l'.length xc) l' ∧ l' = playL l (os.take i) ∧ Below B w wr ∧ (∀ x, F' x → F x ∨ w.heap.size ≤ x) ∧ Frm F w wr)) (fun _ iv _ => n - (intOf iv).toNat)
  case atStart => exact ⟨0, l, F, la, lc, Nat.zero_le _, rfl, rfl, Nat.le_refl _, HI0⟩
  case round =>
    obtain ⟨i, l', F', xa, xc, hi, rfl, rfl, hll, HC⟩ := hrel
    by_cases hin : i < n
    · obtain ⟨b, off, hab, hblt, hcx⟩ := HSC.out (by rw [← HN.out]; omega)
      subst hab
      have hio : i < os.length := by rw [← HN.out]; exact hin
      obtain ⟨h1, h2, h3, h4, h5, h6⟩ := HC.out
      obtain ⟨c1, c2, c3⟩ := hcx i hio
      have c1 := (h4.cell (p := ⟨b, off + i * 3, none⟩) (by exact hblt)).trans c1
      have c2 := (h4.cell (p := ⟨b, off + i * 3 + 1, none⟩) (by exact hblt)).trans c2
      have c3 := (h4.cell (p := ⟨b, off + i * 3 + 2, none⟩) (by exact hblt)).trans c3
      have hst := take_snoc os i hio
      obtain ⟨⟨o1, o2, o3⟩, ho⟩ : ∃ o, o = os.getD i default := ⟨_, rfl⟩
      rw [← ho] at c1 c2 c3 hst
      have hbx : Below wr.heap.size wr (wr.alloc (.cells #[.int .i64 o1, .int .i64 o2, .int .i64 o3] 63)) := (Below.refl _ _).alloc (Nat.le_refl _) _
      have hx0 : (wr.alloc (.cells #[.int .i64 o1, .int .i64 o2, .int .i64 o3] 63)).heap[wr.heap.size]? = some (.cells #[.int .i64 o1, .int .i64 o2, .int .i64 o3] 63 (0, 0)) := heap_alloc_new _ _
      have hszb := hbx.size
      have HDO := Lib.hid (ddo_L (h2.below hbx) (fun x hx => Nat.lt_of_lt_of_le (h1.lt x hx).1 hszb) h1.srt h1.many (o1, o2, o3))
      unfold opV at HDO
      have hl2 : (stepL l' (o1, o2, o3)).length ≤ l.length + (i + 1) := by have := stepL_len h1.srt (o1, o2, o3); omega
      have hpl : stepL l' (o1, o2, o3) = playL l (os.take (i + 1)) := by rw [hst, playL_snoc, ← h3]
      obtain ⟨l2, hl2d⟩ : ∃ l2, l2 = stepL l' (o1, o2, o3) := ⟨_, rfl⟩
      obtain ⟨⟨r1, r2⟩, hr⟩ : ∃ r, r = stepV l' (o1, o2, o3) := ⟨_, rfl⟩
      rw [← hl2d, ← hr] at HDO
      rw [← hl2d] at hl2 hpl
      have HST := Lib.hid (And.intro hl2d (And.intro hr hpl))
      have H1 := Lib.hid (And.intro h1 (And.intro h4 (And.intro h5 h6)))
      have HX0 := Lib.hid (And.intro hbx hx0)
      have hBr : B ≤ wr.heap.size := Nat.le_trans hB h4.size
      clear hl2d hr hpl hst ho hcx h1 h2 h3 h4 h5 h6 HC hbx hx0
      go_wp2_with fail
      refine HDO.out.mono ?_
      rintro e w2 ⟨lv2, rfl, hd2, hb2⟩
      obtain ⟨xa2, xc2, rfl, _⟩ := hd2.val
      have hbw2 : Below wr.heap.size wr w2 := HX0.out.1.trans (hb2.mono hszb)
      have hx2 := (hb2.block _ (lt_of_block HX0.out.2)).trans HX0.out.2
      have k0 : w2.cell? ⟨wr.heap.size, 0, none⟩ = some (.int .i64 o1) := by rw [cell_of_row _ _ 0 _ _ _ hx2]; rfl
      have k1 : w2.cell? ⟨wr.heap.size, 1, none⟩ = some (.int .i64 o2) := by rw [cell_of_row _ _ 1 _ _ _ hx2]; rfl
      have k2 : w2.cell? ⟨wr.heap.size, 2, none⟩ = some (.int .i64 o3) := by rw [cell_of_row _ _ 2 _ _ _ hx2]; rfl
      have HDS := Lib.hid (does_L (H1.out.1.below hbw2) (by omega) (Nat.le_trans hBr hbw2.size) (o1, o2, o3))
      unfold opV at HDS
      rw [← HST.out.1, ← HST.out.2.1] at HDS
      have HD2 := Lib.hid (And.intro hd2 hbw2)
      clear hd2 hb2 hbw2 hx2
      go_wp2_with fail
      refine HDS.out.mono ?_
      rintro e w3 ⟨rfl, F2, ht3, hF3, hf3⟩
      have hd3 := HD2.out.1.frm hf3 (fun x _ hx => hx) (F' := F2) (fun x hxl hx => by
        rcases hF3 x hx with h | h
        · exact h
        · omega)
      have hbB : Below B wr w3 := (HD2.out.2.mono hBr).trans (hf3.below (Nat.le_trans hBr HD2.out.2.size) fun x hx => (H1.out.1.lt x hx).2)
      have hsw : w.heap.size ≤ wr.heap.size := H1.out.2.1.size
      have HN3 : Hid (TabL w3 B t l2 F2 ∧ DocAt w3 F2 (.slice xa2 l2.length xc2) l2 ∧ l2 = playL l (os.take (i + 1)) ∧ Below B w w3 ∧ (∀ x, F2 x → F x ∨ w.heap.size ≤ x) ∧ Frm F w w3) :=
        Lib.hid ⟨ht3, hd3, HST.out.2.2, H1.out.2.1.trans hbB, fun x hx => by
          rcases hF3 x hx with h | h
          · exact H1.out.2.2.1 x h
          · exact .inr (by have := HD2.out.2.size; omega), (H1.out.2.2.2.then (Frm.of_below (F := fun _ => False) HD2.out.2) fun x _ hx => hx.elim).then hf3 fun x hxl hx => by
          rcases H1.out.2.2.1 x hx with h | h
          · exact h
          · omega⟩
      have HLEN := Lib.hid (len_L ht3)
      obtain ⟨d, hdd, hdc⟩ := depth_L ht3
      have HDEP := Lib.hid hdc
      have HHAL := Lib.hid (dhalves_any l2.length (by omega) w3)
      have hhv := halvesN_le l2.length
      generalize halvesN l2.length = hv at *
      clear ht3 hF3 hf3 hd3 hbB hdc k0 k1 k2 c1 c2 c3
      go_wp2_with fail
      refine HLEN.out.mono ?_
      rintro e w4 ⟨rfl, rfl⟩
      go_wp2_with fail
      refine HDEP.out.mono ?_
      rintro e w4 ⟨rfl, rfl⟩
      go_wp2_with fail
      refine HHAL.out.mono ?_
      rintro e w4 ⟨rfl, rfl⟩
      have hgt : ¬ (2 + (hv : Int)) < (d : Int) := by omega
      go_wp2_with fail
      go_roundw
      case rel => exact ⟨i + 1, l2, F2, xa2, xc2, by omega, rfl, by go_num, hl2, HN3⟩
      case measure => simp [intOf]; omega
    · obtain rfl : i = n := by omega
      obtain ⟨h1, h2, h3, h4, h5, h6⟩ := HC.out
      rw [HN.out, List.take_length] at h3
      have HE := Lib.hid (And.intro h1 (And.intro h2 (And.intro h3 (And.intro h4 (And.intro h5 h6)))))
      clear h1 h2 h3 h4 h5 h6 HC
      go_wp2_with fail
      go_ret2
      obtain ⟨h1, h2, h3, h4, h5, h6⟩ := HE.out
      refine ⟨_, F', rfl, by rw [← h3]; exact h1, by rw [← h3]; exact h2, h4, h5, h6⟩
end Go.Proofs.Ytdgapagpmdfndaa
