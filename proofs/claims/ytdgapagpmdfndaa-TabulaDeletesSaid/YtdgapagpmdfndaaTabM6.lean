/- LAYER 13 (tabula): TabulaOrder. -/
import Derived.Test.YtdgapagpmdfndaaTabM2
import Derived.Test.YtdgapagpmdfndaaTabO2
import Derived.Test.YtdgapagpmdfndaaTabPz
namespace Go.Proofs.Ytdgapagpmdfndaa
open Go.RowKit
set_option linter.unusedVariables false
theorem IntsAt.len {w : World} {B : Nat} {v : Value} {ks : List Int} (h : IntsAt w B v ks) : ∃ a cap, v = .slice a ks.length cap := by
  obtain ⟨a, cap, e, _⟩ := h
  exact ⟨a, cap, e⟩
/-- Two tables and the document's rows, behind calls that began at w0. -/
structure St2 (w0 : World) (t u : Nat) (a b l : List Row) (Ft Fu : Nat → Prop) (lv : Value) (w : World) : Prop where
  tab1 : TabL w w0.heap.size t a Ft
  tab2 : TabL w w0.heap.size u b Fu
  dis : ∀ x, Ft x → ¬ Fu x
  doc : DocAt w (fun x => Ft x ∨ Fu x) lv l
  bel : Below w0.heap.size w0 w
theorem St2.step {w0 : World} {t u : Nat} {a b l : List Row} {Ft Fu : Nat → Prop} {lv : Value} {w w' : World} (h : St2 w0 t u a b l Ft Fu lv w) (hb : Below w.heap.size w w') : St2 w0 t u a b l Ft Fu lv w' :=
  ⟨h.tab1.below hb, h.tab2.below hb, h.dis, h.doc.below hb, h.bel.trans (hb.mono h.bel.size)⟩
theorem St2.put1 {w0 : World} {t u : Nat} {a b l a' : List Row} {Ft Fu : Nat → Prop} {lv : Value} {w w' : World} (h : St2 w0 t u a b l Ft Fu lv w) (hs : StepOk w w' w0.heap.size t Ft a') : ∃ Ft', St2 w0 t u a' b l Ft' Fu lv w' := by
  have hbel := hs.below h.tab1 h.bel.size
  obtain ⟨Ft', h1, h2, h3⟩ := hs
  refine ⟨Ft', h1, h.tab2.frm h3 fun x hx hy => h.dis x hy hx, fun x hx hy => ?_, h.doc.frm h3 (fun x _ hx => .inl hx) fun x hxl hx => ?_, h.bel.trans hbel⟩
  · rcases h2 x hx with hh | hh
    · exact h.dis x hh hy
    · have := (h.tab2.lt x hy).1; omega
  · rcases hx with hx | hx
    · rcases h2 x hx with hh | hh
      · exact .inl hh
      · omega
    · exact .inr hx
theorem St2.put2 {w0 : World} {t u : Nat} {a b l b' : List Row} {Ft Fu : Nat → Prop} {lv : Value} {w w' : World} (h : St2 w0 t u a b l Ft Fu lv w) (hs : StepOk w w' w0.heap.size u Fu b') : ∃ Fu', St2 w0 t u a b' l Ft Fu' lv w' := by
  have hbel := hs.below h.tab2 h.bel.size
  obtain ⟨Fu', h1, h2, h3⟩ := hs
  refine ⟨Fu', h.tab1.frm h3 fun x hx hy => h.dis x hx hy, h1, fun x hx hy => ?_, h.doc.frm h3 (fun x _ hx => .inr hx) fun x hxl hx => ?_, h.bel.trans hbel⟩
  · rcases h2 x hy with hh | hh
    · exact h.dis x hx hh
    · have := (h.tab1.lt x hx).1; omega
  · rcases hx with hx | hx
    · exact .inl hx
    · rcases h2 x hx with hh | hh
      · exact .inr hh
      · omega
theorem St2.put3 {w0 : World} {t u : Nat} {a b l l' : List Row} {Ft Fu : Nat → Prop} {lv lv' : Value} {w w' : World} (h : St2 w0 t u a b l Ft Fu lv w) (hb : Below w.heap.size w w') (ho : OwnS w' w.heap.size 46 2 lv' l'.length (rowCells l')) : St2 w0 t u a b l' Ft Fu lv' w' :=
  ⟨h.tab1.below hb, h.tab2.below hb, h.dis, .of_own ho fun x hx => by
    rcases hx with hx | hx
    · exact (h.tab1.lt x hx).1
    · exact (h.tab2.lt x hx).1, h.bel.trans (hb.mono h.bel.size)⟩
/-- The state ahead of a round of the first loop. -/
def Ord1 (w : World) (t u : Nat) (ks : List Int) (i : Nat) (xa : Option Addr) (q xc : Nat) (wr : World) : Prop :=
  q = (kput 2 [] (ks.take i)).length ∧ ∃ Ft Fu, St2 w t u (kput 2 [] (ks.take i)) (kput 2 [] (ks.reverse.take i)) (kput 2 [] (ks.take i)) Ft Fu (.slice xa q xc) wr
def Ord2 (w : World) (t u : Nat) (l b : List Row) (xa : Option Addr) (q xc : Nat) (wr : World) : Prop := ∃ Ft Fu, St2 w t u l b l Ft Fu (.slice xa q xc) wr
theorem rev_at (ks : List Int) {i p : Nat} (h : ks.length = i + 1 + p) : ks.reverse.getD i default = ks.getD p default := by
  have h1 : i < ks.reverse.length := by rw [List.length_reverse]; omega
  have h2 : p < ks.length := by omega
  simp only [List.getD_eq_getElem?_getD, List.getElem?_eq_getElem h1, List.getElem?_eq_getElem h2, Option.getD_some, List.getElem_reverse]
  congr 1
  omega
set_option maxRecDepth 100000 in
set_option maxHeartbeats 4000000 in
theorem tabOrder_any (v0 : Value) (ks : List Int) (v1 : Value) (gs : List Int) (w : World) (h0 : IntsAt w w.heap.size v0 ks) (h1 : IntsAt w w.heap.size v1 gs) :
    Calls Try.prog 4 #[v0, v1] w fun e w' => e = .returned (.bool true) ∧ Below w.heap.size w w' := by
  have HNEW := Lib.hid (new_L w w.heap.size (Nat.le_refl _))
  obtain ⟨a, cap, rfl, hk0⟩ := h0
  obtain ⟨a', cap', rfl, hk1⟩ := h1
  obtain ⟨n, hn⟩ : ∃ n, n = ks.length := ⟨_, rfl⟩
  obtain ⟨m, hm⟩ : ∃ m, m = gs.length := ⟨_, rfl⟩
  rw [← hn, ← hm]
  have HK0 := Lib.hid hk0
  have HK1 := Lib.hid hk1
  have HN := Lib.hid hn
  have HM := Lib.hid hm
  clear hk0 hk1 hn hm
  by_cases hl : 1000 < n ∨ 1000 < m
  · have key : (1000 < n) ∨ (n ≤ 1000 ∧ 1000 < m) := by omega
    rcases key with hl | ⟨hl1, hl2⟩
    all_goals
      go_enter Try.func4, Try.ntmps4
      go_wp2_with fail
      refine HNEW.out.mono ?_
      rintro e w1 ⟨t, F, rfl, ht, _, hb1⟩
      have HB1 := Lib.hid hb1
      have HNEW1 := Lib.hid (new_L w1 w.heap.size hb1.size)
      clear ht hb1
      go_wp2_with fail
      refine HNEW1.out.mono ?_
      rintro e w2 ⟨u, Fu, rfl, hu, _, hb2⟩
      have HB2 := Lib.hid (HB1.out.trans (hb2.mono HB1.out.size))
      clear hu hb2
      have HAL := Lib.hid (alive_any w2)
      go_wp2_with fail
      refine HAL.out.mono ?_
      rintro e w3 ⟨rfl, hb3⟩
      have HB3 := Lib.hid (HB2.out.trans (hb3.mono HB2.out.size))
      clear hb3
      go_wp2_with fail
      go_ret
      exact ⟨rfl, HB3.out⟩
  · have hln : n ≤ 1000 := by omega
    have hlm : m ≤ 1000 := by omega
    clear hl
    go_enter Try.func4, Try.ntmps4
    go_wp2_with fail
    refine HNEW.out.mono ?_
    rintro e w1 ⟨t, Ft, rfl, ht, _, hb1⟩
    have HB1 := Lib.hid hb1
    have HT1 := Lib.hid ht
    have HNEW1 := Lib.hid (new_L w1 w.heap.size hb1.size)
    clear ht hb1
    go_wp2_with fail
    refine HNEW1.out.mono ?_
    rintro e w2 ⟨u, Fu, rfl, hu, hFu, hb2⟩
    have HO : Hid (Ord1 w t u ks 0 none 0 0 w2) := Lib.hid ⟨rfl, Ft, Fu, HT1.out.below hb2, hu, fun x hx hy => by
      have := (HT1.out.lt x hx).1
      have := hFu x hy
      omega, .nil _ _, HB1.out.trans (hb2.mono HB1.out.size)⟩
    clear hu hFu hb2 HNEW HNEW1
    go_wp2_with fail
    go_loopw [7, 43] (fun lvv iv wr => ∃ (i : Nat) (xa : Option Addr) (q xc : Nat), i ≤ n ∧ lvv = .slice xa q xc ∧ iv = .int .i64 (i : Int) ∧ Hid (Ord1 w t u ks i xa q xc wr)) (fun _ iv _ => n - (intOf iv).toNat)
    case atStart => exact ⟨0, none, 0, 0, Nat.zero_le _, rfl, rfl, HO⟩
    case round =>
      obtain ⟨i, xa, q, xc, hi, rfl, rfl, HC⟩ := hrel
      by_cases hin : i < n
      · obtain ⟨b, off, hab, hblt, hcx⟩ := HK0.out (by rw [← HN.out]; omega)
        subst hab
        obtain ⟨p, hp⟩ : ∃ p, n = i + 1 + p := ⟨n - (i + 1), by omega⟩
        have hio : i < ks.length := by rw [← HN.out]; exact hin
        have hir : i < ks.reverse.length := by rw [List.length_reverse]; exact hio
        have hpk : p < ks.length := by rw [← HN.out]; omega
        obtain ⟨hq, Ft', Fu', hst⟩ := HC.out
        have ck := (hst.bel.cell (p := ⟨b, off + i, none⟩) (by exact hblt)).trans (hcx i hio)
        have hcp := hcx p hpk
        have e1 := take_snoc ks i hio
        have e2 := take_snoc ks.reverse i hir
        rw [rev_at ks (by rw [← HN.out]; exact hp)] at e2
        have hlen := kput_len 2 (ks.take i) (a := []) List.Pairwise.nil
        rw [List.length_take] at hlen
        have hlen2 := kput_len 2 (ks.reverse.take i) (a := []) List.Pairwise.nil
        rw [List.length_take] at hlen2
        have hsrt := kput_sorted 2 (ks.take i) (a := []) List.Pairwise.nil
        have f1 : kput 2 [] (ks.take (i + 1)) = insL (kput 2 [] (ks.take i)) (ks.getD i default) 2 := by rw [e1, kput_snoc]
        have f2 : kput 2 [] (ks.reverse.take (i + 1)) = insL (kput 2 [] (ks.reverse.take i)) (ks.getD p default) 2 := by rw [e2, kput_snoc]
        simp only [List.length_nil, Nat.zero_add] at hlen hlen2
        have hA : (kput 2 [] (ks.take i)).length < 900000 := by omega
        have hB : (kput 2 [] (ks.reverse.take i)).length < 900000 := by omega
        generalize kput 2 [] (ks.take i) = A at *
        generalize kput 2 [] (ks.reverse.take i) = Bl at *
        generalize ks.getD i default = k at *
        generalize ks.getD p default = r at *
        have HF := Lib.hid (And.intro f1 (And.intro f2 (And.intro hsrt hq)))
        have HCP := Lib.hid (And.intro hcp hblt)
        have HS := Lib.hid hst
        clear hq hst hcp hcx e1 e2 hlen hlen2 hsrt f1 f2 HC hblt
        have HP1 := Lib.hid (put_L HS.out.tab1 hA HS.out.bel.size k 2)
        go_wp2_with fail
        refine HP1.out.mono ?_
        rintro e w3 ⟨rfl, hs3⟩
        obtain ⟨F3, hst3⟩ := HS.out.put1 hs3
        have HS3 := Lib.hid hst3
        have cp3 := (hst3.bel.cell (p := ⟨b, off + p, none⟩) (by exact HCP.out.2)).trans HCP.out.1
        have HP2 := Lib.hid (put_L HS3.out.tab2 hB HS3.out.bel.size r 2)
        have hz : (n : Int) - 1 - (i : Int) = (p : Int) := by omega
        have HPN := Lib.hid hp
        clear hs3 hst3 ck hp
        go_wp2_with fail
        clear hz
        refine HP2.out.mono ?_
        rintro e w4 ⟨rfl, hs4⟩
        obtain ⟨F4, hst4⟩ := HS3.out.put2 hs4
        have HS4 := Lib.hid hst4
        have HD := Lib.hid (dput_any HS4.out.doc HF.out.2.2.1 (by omega) k 2)
        clear hs4 hst4 cp3
        go_wp2_with fail
        refine HD.out.mono ?_
        rintro e w5 ⟨lv5, rfl, ho, hb5⟩
        have hst5 := HS4.out.put3 hb5 ho
        obtain ⟨xa5, xc5, rfl⟩ := ho.len
        have HO5 : Hid (Ord1 w t u ks (i + 1) xa5 (insL A k 2).length xc5 w5) := Lib.hid ⟨by rw [HF.out.1], F3, F4, by rw [HF.out.1, HF.out.2.1]; exact hst5⟩
        generalize (insL A k 2).length = q5 at *
        clear hst5 ho hb5
        go_wp2_with fail
        go_roundw
        case rel => exact ⟨i + 1, xa5, q5, xc5, by omega, rfl, by go_num, HO5⟩
        case measure => simp [intOf]; omega
      · obtain rfl : i = n := by omega
        obtain ⟨hq, Ft', Fu', hst⟩ := HC.out
        have t1 : ks.take i = ks := List.take_of_length_le (by rw [← HN.out]; exact Nat.le_refl _)
        have t2 : ks.reverse.take i = ks.reverse := List.take_of_length_le (by rw [List.length_reverse, ← HN.out]; exact Nat.le_refl _)
        rw [t1] at hq
        rw [t1, t2, kput_rev] at hst
        have hlen := kput_len 2 ks (a := []) List.Pairwise.nil
        simp only [List.length_nil, Nat.zero_add] at hlen
        rw [← HN.out, ← hq] at hlen
        have hsrt := kput_sorted 2 ks (a := []) List.Pairwise.nil
        generalize kput 2 [] ks = A at *
        have HS : Hid (Ord2 w t u A A xa q xc wr) := Lib.hid ⟨Ft', Fu', hst⟩
        have HQ := Lib.hid (And.intro hq hsrt)
        obtain ⟨wo, rfl⟩ : ∃ wo : World, wo = wr := ⟨_, rfl⟩
        clear hq hst t1 t2 hsrt HC HO
        go_wp2_with fail
        go_loopw [71] (fun iv wr => ∃ j : Nat, j ≤ m ∧ iv = .int .i64 (j : Int) ∧ Hid (Ord2 w t u A A xa q xc wr)) (fun iv _ => m - (intOf iv).toNat)
        case atStart => exact ⟨0, Nat.zero_le _, rfl, HS⟩
        case round =>
          obtain ⟨j, hj, rfl, HC⟩ := hrel
          by_cases hjm : j < m
          · obtain ⟨b, off, hab, hblt, hcx⟩ := HK1.out (by rw [← HM.out]; omega)
            subst hab
            obtain ⟨F1, F2, hst⟩ := HC.out
            have ck := (hst.bel.cell (p := ⟨b, off + j, none⟩) (by exact hblt)).trans (hcx j (by rw [← HM.out]; exact hjm))
            generalize gs.getD j default = k at *
            have hdg := dget_any hst.doc HQ.out.2 (by rw [← HQ.out.1]; omega) k
            have HS2 := Lib.hid hst
            obtain ⟨x, hx⟩ : ∃ x, x = getL A k := ⟨_, rfl⟩
            rw [← hx] at hdg
            cases x with
            | some v =>
              have HDG := Lib.hid hdg
              clear hdg hst hx hcx hblt
              go_wp2_with fail
              refine HDG.out.mono ?_
              rintro e w3 ⟨rfl, rfl⟩
              go_wp2_with fail
              go_roundw
              case rel => exact ⟨j + 1, by omega, by go_num, HC⟩
              case measure => simp [intOf]; omega
            | none =>
              have HDG := Lib.hid hdg
              have HP := Lib.hid (put_L HS2.out.tab1 (by rw [← HQ.out.1]; omega) HS2.out.bel.size k 9)
              have HE := Lib.hid (del_ins HQ.out.2 hx.symm 9)
              clear hdg hst hx hcx hblt HC
              go_wp2_with fail
              refine HDG.out.mono ?_
              rintro e w3 ⟨rfl, rfl⟩
              go_wp2_with fail
              refine HP.out.mono ?_
              rintro e w4 ⟨rfl, hs4⟩
              obtain ⟨F4, hst4⟩ := HS2.out.put1 hs4
              have HS4 := Lib.hid hst4
              have HDL := Lib.hid (del_L HS4.out.tab1 HS4.out.bel.size k)
              clear hs4 hst4 ck
              go_wp2_with fail
              refine HDL.out.mono ?_
              rintro e w5 ⟨rfl, hs5⟩
              rw [HE.out] at hs5
              obtain ⟨F5, hst5⟩ := HS4.out.put1 hs5
              have HS5 : Hid (Ord2 w t u A A xa q xc w5) := Lib.hid ⟨F5, F2, hst5⟩
              clear hs5 hst5
              go_wp2_with fail
              go_roundw
              case rel => exact ⟨j + 1, by omega, by go_num, HS5⟩
              case measure => simp [intOf]; omega
          · obtain rfl : j = m := by omega
            obtain ⟨F1, F2, hst⟩ := HC.out
            have HS2 := Lib.hid hst
            have HAL := Lib.hid (alive_any wr)
            clear hst HC
            go_wp2_with fail
            refine HAL.out.mono ?_
            rintro e w3 ⟨rfl, hb3⟩
            have HS3 := Lib.hid (HS2.out.step hb3)
            clear hb3
            have hst1 := stands_L HS3.out.tab1 (HS3.out.doc.frm (Frm.refl (fun _ => False) _) (fun _ _ hx => hx.elim) fun x _ hx => .inl hx)
            have HST1 := Lib.hid hst1
            clear hst1
            go_wp2_with fail
            refine HST1.out.mono ?_
            rintro e w4 ⟨rfl, hb4⟩
            have HS4 := Lib.hid (HS3.out.step hb4)
            clear hb4
            have hst2 := stands_L HS4.out.tab2 (HS4.out.doc.frm (Frm.refl (fun _ => False) _) (fun _ _ hx => hx.elim) fun x _ hx => .inr hx)
            have HST2 := Lib.hid hst2
            clear hst2
            go_wp2_with fail
            refine HST2.out.mono ?_
            rintro e w5 ⟨rfl, hb5⟩
            have HS5 := Lib.hid (HS4.out.step hb5)
            clear hb5
            go_wp2_with fail
            go_ret
            exact ⟨rfl, HS5.out.bel⟩
end Go.Proofs.Ytdgapagpmdfndaa
