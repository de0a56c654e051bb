/- LAYER 13 (tabula): drop, from any part. -/
import Derived.Test.YtdgapagpmdfndaaTabQ
namespace Go.Proofs.Ytdgapagpmdfndaa
open Go.RowKit
set_option linter.unusedVariables false
/-- What drop leaves. -/
def DropOk (w w' : World) (B h : Nat) (k : Kid) (key : Int) : Prop := ∃ k' : Kid, k'.p = k.p ∧ TreeAt w' B 1 h k' ∧ k'.L = delL k.L key ∧ k'.e ≤ k.e ∧ (∀ x, k'.F x → k.F x ∨ w.heap.size ≤ x) ∧ Frm k.F w w'
theorem drop_count {w w3 : World} {B h p : Nat} {rv sv sv' : Value} {ks ks' : List Kid} {m : Int} {key : Int} (hn : NodeAt w3 B p rv sv' [] (kidsP ks') m) (hc : ∀ c ∈ ks', TreeAt w3 B 1 h c ∧ 1 ≤ c.e ∧ c.e ≤ 8) (hap : Apart ks') (hno : ∀ x, nodeF p rv sv' x → ¬ kidsF ks' x)
    (hl : ks'.length ≤ ks.length) (h8 : ks.length ≤ 8) (hL : kidsL ks' = delL (kidsL ks) key) (hLL : (kidsL ks).length ≤ 1000000) (hF : ∀ x, kidsF ks' x → kidsF ks x ∨ w.heap.size ≤ x) (hsv : ∀ x, sv'.ownBlock = some x → sv.ownBlock = some x) (hf : Frm (fun x => nodeF p rv sv x ∨ kidsF ks x) w w3) :
    Calls Try.prog 36 #[.pointer (some ⟨p, 0, none⟩)] w3 fun e w4 => (∃ v, e = .returned v) ∧ DropOk w w4 B (h + 1) ⟨p, ks.length, kidsL ks, fun x => nodeF p rv sv x ∨ kidsF ks x⟩ key := by
  have hle : (delL (kidsL ks) key).length ≤ (kidsL ks).length := List.length_filter_le _ _
  refine (count_tree hn hc hap hno (by omega) (by rw [hL]; omega)).mono ?_
  rintro e w4 ⟨he, ht, hf4⟩
  refine ⟨he, ⟨p, ks'.length, kidsL ks', fun x => nodeF p rv sv' x ∨ kidsF ks' x⟩, rfl, ht, hL, hl, fun x hx => ?_, hf.then hf4 fun x _ e => .inl (.inl e)⟩
  rcases hx with hx | hx
  · rcases hx with hx | hx | hx
    · exact .inl (.inl (.inl hx))
    · exact .inl (.inl (.inr (.inl hx)))
    · exact .inl (.inl (.inr (.inr (hsv x hx))))
  · exact (hF x hx).imp .inr id
set_option maxRecDepth 100000 in
set_option maxHeartbeats 4000000 in
theorem drop_node {w : World} {B h p : Nat} {rv sv : Value} {ks : List Kid} {m : Int}
    (ih : ∀ {w : World} {k : Kid}, TreeAt w B 1 h k → 1 ≤ k.e → k.e ≤ 8 → Sorted k.L → k.L.length ≤ 1000000 → B ≤ w.heap.size → ∀ key, Calls Try.prog 38 #[.pointer (some ⟨k.p, 0, none⟩), .int .i64 key] w fun e w' => e = .returned (.tuple #[.int .i64 ((getL k.L key).getD 0), .bool (getL k.L key).isSome]) ∧ DropOk w w' B h k key)
    (hn : NodeAt w B p rv sv [] (kidsP ks) m) (hc : ∀ c ∈ ks, TreeAt w B 1 h c ∧ 1 ≤ c.e ∧ c.e ≤ 8) (hap : Apart ks) (hno : ∀ x, nodeF p rv sv x → ¬ kidsF ks x) (h0 : 0 < ks.length) (h8 : ks.length ≤ 8) (hs : Sorted (kidsL ks)) (hL : (kidsL ks).length ≤ 1000000) (hB : B ≤ w.heap.size) (key : Int) :
    Calls Try.prog 38 #[.pointer (some ⟨p, 0, none⟩), .int .i64 key] w fun e w' => e = .returned (.tuple #[.int .i64 ((getL (kidsL ks) key).getD 0), .bool (getL (kidsL ks) key).isSome]) ∧ DropOk w w' B (h + 1) ⟨p, ks.length, kidsL ks, fun x => nodeF p rv sv x ∨ kidsF ks x⟩ key := by
  have hne : ∀ c ∈ ks, c.L ≠ [] := fun c hcm => (hc c hcm).1.pos (Nat.le_refl 1) (Nat.le_trans (Nat.le_refl 1) (hc c hcm).2.1)
  have hklt : ∀ x, kidsF ks x → x < w.heap.size := fun x ⟨c, hcm, hx⟩ => ((hc c hcm).1.lt x hx).1
  have hbx : Below w.heap.size w (w.alloc (.cells #[.int .i64 key] 3)) := (Below.refl _ _).alloc (Nat.le_refl _) _
  have hx0 : (w.alloc (.cells #[.int .i64 key] 3)).heap[w.heap.size]? = some (.cells #[.int .i64 key] 3 (0, 0)) := heap_alloc_new _ _
  have HSUB := Lib.hid (sub_any (Nat.le_refl 1) (hn.below hbx) (fun c hcm => ⟨(hc c hcm).1.below hbx, (hc c hcm).2⟩) h0 (by omega) (lasts_mono hs hne) key)
  have k0 : (w.alloc (.cells #[.int .i64 key] 3)).cell? ⟨w.heap.size, 0, none⟩ = some (.int .i64 key) := by rw [cell_of_row _ _ 0 _ _ _ hx0]; rfl
  obtain ⟨n, hnn⟩ : ∃ n, n = ks.length := ⟨_, rfl⟩
  have HNN := Lib.hid hnn
  obtain ⟨c0, c1, c2⟩ := (hn.below hbx).cells
  have hss := hn.ss
  rw [kidsP_len, ← hnn] at hss
  obtain ⟨g, cap, rfl, hBg, hgl, hnc, hcm⟩ := hss.shape (by omega)
  have HNo := Lib.hid hn
  have HC := Lib.hid hc
  have HAP := Lib.hid hap
  have HNO := Lib.hid hno
  have HS := Lib.hid hs
  have HNE := Lib.hid hne
  have HKL := Lib.hid hklt
  have HBX := Lib.hid hbx
  have HX0 := Lib.hid hx0
  have HIH := @ih
  rw [← hnn] at h0 h8 ⊢
  obtain ⟨r, hrr⟩ : ∃ r, r = getL (kidsL ks) key := ⟨_, rfl⟩
  rw [← hrr]
  have HRR := Lib.hid hrr
  clear hn hc hap hno hs hnn hne hklt hbx hx0 ih hss hrr
  go_enter Try.func38, Try.ntmps38
  go_wp2_with fail
  refine HSUB.out.mono ?_
  rintro e w1 ⟨⟨t, rfl, ht⟩, hb1⟩
  obtain ⟨hL1, hA, hD, hSc⟩ := sub_split HS.out HNE.out ht
  have htn : t < n := by rw [HNN.out]; exact ht.1
  have hsp := kids_split ks t ht.1
  have hb2 : Below w.heap.size w w1 := HBX.out.trans (hb1.mono HBX.out.size)
  have hx1 := (hb1.block _ (lt_of_block HX0.out)).trans HX0.out
  have hcm := getD_mem ks t ht.1
  obtain ⟨c, hcd⟩ : ∃ c, c = ks.getD t default := ⟨_, rfl⟩
  rw [← hcd] at hL1 hSc hsp hcm
  have hct := HC.out c hcm
  have hn1 := HNo.out.below hb2
  have hss1 := hn1.ss
  rw [kidsP_len, ← HNN.out] at hss1
  have d1 := hss1.cellAt t (by omega)
  rw [ptrCells_at _ t (by rw [kidsP_len, ← HNN.out]; exact htn), kidsP_at _ _ ht.1, ← hcd] at d1
  obtain ⟨a0, a1, a2⟩ := hn1.cells
  have a1 : w1.cell? ⟨p, 1, none⟩ = some (.slice (some ⟨g, 0, none⟩) n cap) := a1
  have k0 : w1.cell? ⟨w.heap.size, 0, none⟩ = some (.int .i64 key) := by rw [cell_of_row _ _ 0 _ _ _ hx1]; rfl
  have hgl2 : getL c.L key = r := by rw [HRR.out, hL1]; exact (getL_mid hA hD).symm
  have hcLlen : c.L.length ≤ 1000000 := by rw [hL1] at hL; simp only [List.length_append] at hL; omega
  have HPUT : Hid (∀ w', Below w1.heap.size w1 w' → Calls Try.prog 38 #[.pointer (some ⟨c.p, 0, none⟩), .int .i64 key] w' fun e w2 => e = .returned (.tuple #[.int .i64 ((getL c.L key).getD 0), .bool (getL c.L key).isSome]) ∧ DropOk w' w2 B h c key) := Lib.hid fun w' hb' =>
    HIH ((hct.1.below hb2).below hb') (Nat.le_trans (Nat.le_refl 1) hct.2.1) hct.2.2 hSc hcLlen (Nat.le_trans (Nat.le_trans hB hb2.size) hb'.size) key
  have hpF : ¬ c.F p := fun hx => HNO.out p (.inl rfl) ⟨c, hcm, hx⟩
  have hgF : ¬ c.F g := fun hx => HNO.out g (.inr (.inr rfl)) ⟨c, hcm, hx⟩
  have hxF : ¬ c.F w.heap.size := fun hx => by have := HKL.out _ ⟨c, hcm, hx⟩; omega
  have HKS : Hid (∀ w' w2 : World, (w'.cell? ⟨p, 1, none⟩ = some (.slice (some ⟨g, 0, none⟩) n cap) ∧ w'.cell? ⟨g, t, none⟩ = some (.pointer (some ⟨c.p, 0, none⟩)) ∧ w'.cell? ⟨w.heap.size, 0, none⟩ = some (.int .i64 key)) → Frm c.F w' w2 →
      (w2.cell? ⟨p, 1, none⟩ = some (.slice (some ⟨g, 0, none⟩) n cap) ∧ w2.cell? ⟨g, t, none⟩ = some (.pointer (some ⟨c.p, 0, none⟩)) ∧ w2.cell? ⟨w.heap.size, 0, none⟩ = some (.int .i64 key))) := Lib.hid fun w' w2 h1 h2 =>
    ⟨(h2.cell (by exact block_lt_of_cell h1.1) (by exact hpF)).trans h1.1, (h2.cell (by exact block_lt_of_cell h1.2.1) (by exact hgF)).trans h1.2.1, (h2.cell (by exact block_lt_of_cell h1.2.2) (by exact hxF)).trans h1.2.2⟩
  have HL1 := Lib.hid hL1
  have HAD := Lib.hid (And.intro hA hD)
  have HSP := Lib.hid hsp
  have HCM := Lib.hid hcm
  have HCT := Lib.hid hct
  have HB2 := Lib.hid hb2
  have HTT := Lib.hid ht
  have z2 : (t : Int) < (n : Int) := by omega
  rw [hgl2] at HPUT
  clear hL1 hA hD hSc hsp hx1 hcm hcd hct hn1 hss1 a0 a2 hgl2 hpF hgF hxF hb1 hb2 HSUB ht c0 c1 c2
  go_wp2_with fail
  go_region_held3 (fun w' => w'.cell? ⟨p, 1, none⟩ = some (.slice (some ⟨g, 0, none⟩) n cap) ∧ w'.cell? ⟨g, t, none⟩ = some (.pointer (some ⟨c.p, 0, none⟩)) ∧ w'.cell? ⟨w.heap.size, 0, none⟩ = some (.int .i64 key))
    (first | exact HKS.out _ _ (by assumption) (by assumption) | exact ⟨a1, d1, k0⟩ | go_keep)
    (first | (go_at_call 38; refine (HPUT.out _ (Below.refl _ _).drew).mono ?_; rintro e w2 ⟨rfl, c', hp', ht', hL', he1, hF', hf'⟩))
  have hHd := (by assumption : w2.cell? ⟨p, 1, none⟩ = some (.slice (some ⟨g, 0, none⟩) n cap) ∧ w2.cell? ⟨g, t, none⟩ = some (.pointer (some ⟨c.p, 0, none⟩)) ∧ w2.cell? ⟨w.heap.size, 0, none⟩ = some (.int .i64 key))
  obtain ⟨b1, e1, _⟩ := hHd
  have hsz1 : w.heap.size ≤ w1.heap.size := HB2.out.size
  have hF2 : Frm c.F w w2 := (Frm.of_below HB2.out).drew.trans hf'
  have hF'2 : ∀ x, c'.F x → c.F x ∨ w.heap.size ≤ x := fun x hx => (hF' x hx).imp id fun h => Nat.le_trans hsz1 h
  have hnF : ∀ x, nodeF p rv (.slice (some ⟨g, 0, none⟩) n cap) x → ¬ c.F x := fun x hx hy => HNO.out x hx ⟨c, HCM.out, hy⟩
  have hnlt : ∀ x, nodeF p rv (.slice (some ⟨g, 0, none⟩) n cap) x → x < w.heap.size := fun x hx => (HNo.out.lt x hx).1
  have hN2 := HNo.out.keep fun x hx => hF2.block x (hnlt x hx) (hnF x hx)
  obtain ⟨A, hA⟩ : ∃ A, A = ks.take t := ⟨_, rfl⟩
  obtain ⟨D, hD⟩ : ∃ D, D = ks.drop (t + 1) := ⟨_, rfl⟩
  have hsp := HSP.out
  rw [← hA, ← hD] at hsp
  have hap := HAP.out
  rw [hsp] at hap
  have hall : ∀ x, kidsF (A ++ c :: D) x → x < w.heap.size := fun x hx => HKL.out x (by rw [hsp]; exact hx)
  have hAl : A.length = t := by rw [hA, List.length_take, ← HNN.out]; omega
  have hAD : ∀ d, d ∈ A ∨ d ∈ D → TreeAt w2 B 1 h d ∧ 1 ≤ d.e ∧ d.e ≤ 8 ∧ ∀ x, d.F x → ¬ c.F x := fun d hd => by
    have hdm : d ∈ ks := by rw [hsp]; rcases hd with hd | hd; exact List.mem_append_left _ hd; exact List.mem_append_right _ (List.mem_cons_of_mem _ hd)
    obtain ⟨h1, h2, h3⟩ := apart_split hap
    obtain ⟨h4, h5⟩ := List.pairwise_cons.1 h2
    have hdis : ∀ x, d.F x → ¬ c.F x := fun x hx hy => by
      rcases hd with hd | hd
      · exact h3 x ⟨d, hd, hx⟩ (kidsF_cons.2 (.inl hy))
      · exact h4 d hd x hy hx
    exact ⟨(HC.out d hdm).1.frm hF2 hdis, (HC.out d hdm).2.1, (HC.out d hdm).2.2, hdis⟩
  have hkL : ∀ N : List Kid, kidsL N = c'.L → kidsL (A ++ N ++ D) = delL (kidsL ks) key := fun N hN => by
    rw [kidsL_append, kidsL_append, hN, hL', HL1.out, delL_mid HAD.out.1 HAD.out.2, hA, hD]
  have HA := Lib.hid hA
  have HD := Lib.hid hD
  have HF2 := Lib.hid hF2
  have HF'2 := Lib.hid hF'2
  have HNF := Lib.hid hnF
  have HNL := Lib.hid hnlt
  have HN2 := Lib.hid hN2
  have HSPL := Lib.hid hsp
  have HAPP := Lib.hid hap
  have HALL := Lib.hid hall
  have HAL := Lib.hid hAl
  have HADT := Lib.hid hAD
  have HKLL := Lib.hid hkL
  have hcl' : c'.L.length ≤ 1000000 := by rw [hL']; exact Nat.le_trans (List.length_filter_le _ _) hcLlen
  have HT' := Lib.hid ht'
  have HP' := Lib.hid hp'
  clear hA hD hF2 hF'2 hnF hnlt hN2 hsp hap hall hAl hAD hkL ht' hp' hF' hf' hL' HPUT HKS HIH a1 d1 k0
  have hm2 := HT'.out.cell
  rw [HP'.out] at hm2
  have HFw : Hid (Frm (fun x => nodeF p rv (.slice (some ⟨g, 0, none⟩) n cap) x ∨ kidsF ks x) w w2) := Lib.hid (HF2.out.weak fun x _ hx => .inr ⟨c, HCM.out, hx⟩)
  have hnn' : n = A.length + 1 + D.length := by
    have := congrArg List.length HSPL.out
    simp only [List.length_append, List.length_cons] at this
    have := HNN.out
    omega
  have HN' := Lib.hid hnn'
  clear hnn'
  by_cases h9 : c'.L.length = 0
  · have hz : c'.L = [] := List.eq_nil_of_length_eq_zero h9
    rw [h9] at hm2
    have hm2 : w2.cell? ⟨c.p, 2, none⟩ = some (.int .i64 0) := hm2
    obtain ⟨hap', hsub'⟩ := kids_replace HAPP.out HALL.out (N := []) List.Pairwise.nil (fun x ⟨d, hd, _⟩ => by cases hd)
    have hkp : (kidsP ks).take t ++ (kidsP ks).drop (t + 1) = kidsP (A ++ [] ++ D) := by
      have e0 : kidsP ks = kidsP A ++ c.p :: kidsP D := by rw [HSPL.out]; simp [kidsP]
      have e1 : (kidsP A).length = t := by rw [kidsP_len, HAL.out]
      have e2 : kidsP ks = (kidsP A ++ [c.p]) ++ kidsP D := by rw [e0]; simp
      have e3 : (kidsP A ++ [c.p]).length = t + 1 := by simp [e1]
      have e4 : (kidsP ks).take t = kidsP A := by rw [e0, ← e1, List.take_left]
      have e5 : (kidsP ks).drop (t + 1) = kidsP D := by rw [e2, ← e3, List.drop_left]
      rw [e4, e5]; simp [kidsP]
    have hss2 := HN2.out.ss
    have HREM := Lib.hid (remP_any (n := n - 1) hss2 (by rw [kidsP_len, ← HNN.out]; omega) t (by omega) (by omega))
    rw [hkp] at HREM
    have hgp : ¬ (Value.slice (some (⟨g, 0, none⟩ : Addr)) n cap).ownBlock = some p := HN2.out.neS p
    have hplt : p < w2.heap.size := lt_of_block HN2.out.row
    have HSU := Lib.hid (And.intro hap' hsub')
    clear hap' hsub' hkp hss2
    go_wp2_with fail
    refine HREM.out.mono ?_
    rintro e w3 ⟨v', rfl, hoI, hfI, hnI⟩
    obtain ⟨va', vc', rfl⟩ := hoI.len
    have q1 := (hfI.cell (p := ⟨p, 1, none⟩) (by exact hplt) hgp).trans b1
    have q2 := free_row ((hfI.block p (by exact hplt) hgp).trans HN2.out.row) 1
    have HI := Lib.hid (And.intro hoI (And.intro hfI hnI))
    clear hoI hfI hnI
    go_wp2_with fail
    obtain ⟨hoI, hfI, hnI⟩ := HI.out
    have hlen : (kidsP (A ++ [] ++ D)).length = n - 1 := by rw [kidsP_len]; have := HN'.out; simp; omega
    have hN5 := HN2.out.setSubs (w' := w3) (subs' := kidsP (A ++ [] ++ D)) (sv' := .slice va' (n - 1) vc') (fun x hx => by
      rcases hx with rfl | hx
      · exact hfI.block _ hplt hgp
      · refine hfI.block x (HN2.out.lt x (.inr (.inl hx))).1 fun e => ?_
        obtain ⟨_, _, u1, h1⟩ := HN2.out.rs.block x hx
        obtain ⟨_, _, u2, h2⟩ := HN2.out.ss.block x e
        rw [h1] at h2
        simp at h2) (by rw [hlen]; exact hoI)
    have hgx : ∀ x, (Value.slice (some (⟨g, 0, none⟩ : Addr)) n cap).ownBlock = some x → x = g := fun x e => by
      have h1 : g = x := by simpa [Value.ownBlock] using e
      exact h1.symm
    have hF5 : Frm (fun x => x = p ∨ x = g) w2 (w3.setCell ⟨p, 1, none⟩ (.slice va' (n - 1) vc')) := (hfI.weak (G := fun x => x = p ∨ x = g) fun x _ e => .inr (hgx x e)).setCell (p := ⟨p, 1, none⟩) (.inl (.inl rfl)) _
    generalize World.setCell w3 _ _ = w5 at *
    have hnod : ∀ x, nodeF p rv (.slice va' (n - 1) vc') x → nodeF p rv (.slice (some ⟨g, 0, none⟩) n cap) x := fun x hx => by
      rcases hx with hx | hx | hx
      · exact .inl hx
      · exact .inr (.inl hx)
      · exact .inr (.inr (hnI x hx))
    have hks : ∀ x, kidsF (A ++ [] ++ D) x → kidsF ks x := fun x hx => by
      rw [HSPL.out]
      rcases kidsF_append.1 hx with hx | hx
      · exact kidsF_append.2 (.inl (by simpa using hx))
      · exact kidsF_append.2 (.inr (kidsF_cons.2 (.inr hx)))
    have HCT2 := Lib.hid (drop_count (w := w) (ks := ks) (sv := .slice (some ⟨g, 0, none⟩) n cap) (key := key) (h := h) hN5 (fun d hd => by
      have hd2 : d ∈ A ∨ d ∈ D := by simpa using hd
      obtain ⟨x1, x2, x3, _⟩ := HADT.out d hd2
      refine ⟨x1.frm hF5 fun x hx e => ?_, x2, x3⟩
      have hk1 := hks x ⟨d, hd, hx⟩
      rcases e with rfl | rfl
      · exact HNO.out _ (.inl rfl) hk1
      · exact HNO.out _ (.inr (.inr rfl)) hk1) HSU.out.1 (fun x hx hy => HNO.out x (hnod x hx) (hks x hy)) (by rw [← HNN.out]; have := HN'.out; simp; omega) (by rw [← HNN.out]; exact h8) (HKLL.out [] hz.symm) hL (fun x hx => .inl (hks x hx)) hnI (HFw.out.then hF5 fun x _ e => by
      rcases e with e | e
      · exact .inl (.inl e)
      · exact .inl (.inr (.inr (by rw [e]; rfl)))))
    clear hoI hfI hnI hN5 hF5 q1 q2
    rw [← HNN.out] at HCT2
    refine HCT2.out.mono ?_
    rintro e w6 ⟨⟨u, rfl⟩, hd6⟩
    have HD6 := Lib.hid hd6
    clear hd6
    go_wp2_with fail
    go_ret2
    exact ⟨rfl, HD6.out⟩
  · have he1' : 1 ≤ c'.e := by
      rcases Nat.eq_zero_or_pos c'.e with h | h
      · have := HT'.out.zero h; rw [this] at h9; exact absurd rfl h9
      · exact h
    have he8 : c'.e ≤ 8 := by have := HCT.out.2.2; omega
    have h9i : ((c'.L.length : Nat) : Int) ≠ 0 := by omega
    have h9b : (((c'.L.length : Nat) : Int) == 0) = false := by simpa using h9i
    obtain ⟨hap', hsub'⟩ := kids_replace HAPP.out HALL.out (N := [c']) (List.pairwise_singleton _ _) (fun x hx => HF'2.out x (by
      obtain ⟨d, hd, hx⟩ := hx
      obtain rfl := List.mem_singleton.1 hd
      exact hx))
    have hkp : kidsP (A ++ [c'] ++ D) = kidsP ks := by
      rw [HSPL.out]; simp [kidsP, HP'.out]
    have hno' : ∀ x, nodeF p rv (.slice (some ⟨g, 0, none⟩) n cap) x → ¬ kidsF (A ++ [c'] ++ D) x := fun x hx hy => by
      rcases hsub' x hy with h1 | h1
      · rw [← HSPL.out] at h1; exact HNO.out x hx h1
      · have := HNL.out x hx; omega
    have hks : ∀ x, kidsF (A ++ [c'] ++ D) x → kidsF ks x ∨ w.heap.size ≤ x := fun x hx => by
      rw [HSPL.out]; exact hsub' x hx
    have hcc : ∀ d ∈ A ++ [c'] ++ D, TreeAt w2 B 1 h d ∧ 1 ≤ d.e ∧ d.e ≤ 8 := fun d hd => by
      rcases List.mem_append.1 hd with hd | hd
      · rcases List.mem_append.1 hd with hd | hd
        · obtain ⟨x1, x2, x3, _⟩ := HADT.out d (.inl hd); exact ⟨x1, x2, x3⟩
        · obtain rfl := List.mem_singleton.1 hd
          exact ⟨HT'.out, he1', he8⟩
      · obtain ⟨x1, x2, x3, _⟩ := HADT.out d (.inr hd); exact ⟨x1, x2, x3⟩
    have hlen' : (A ++ [c'] ++ D).length = n := by have := HN'.out; simp; omega
    have hNN2 := HN2.out
    rw [← hkp] at hNN2
    -- count, where the parts below are these, in a world that has nothing but new memory more
    have HCB : Hid (∀ w', Below w2.heap.size w2 w' → Calls Try.prog 36 #[.pointer (some ⟨p, 0, none⟩)] w' fun e w4 => (∃ v, e = .returned v) ∧ DropOk w w4 B (h + 1) ⟨p, n, kidsL ks, fun x => nodeF p rv (.slice (some ⟨g, 0, none⟩) n cap) x ∨ kidsF ks x⟩ key) := Lib.hid fun w' hb' => by
      have := drop_count (w := w) (ks := ks) (key := key) (h := h) (hNN2.below hb') (fun d hd => ⟨(hcc d hd).1.below hb', (hcc d hd).2⟩) hap' hno' (by rw [hlen', ← HNN.out]; exact Nat.le_refl _) (by rw [← HNN.out]; exact h8) (HKLL.out [c'] (by simp [kidsL])) hL hks (fun x hx => hx) (HFw.out.then (Frm.of_below (F := fun _ => False) hb') fun x _ hx => hx.elim)
      rw [← HNN.out] at this
      exact this
    by_cases hlast : t + 1 < n
    · have hl2 : (t : Int) + 1 < (n : Int) := by omega
      obtain ⟨b, D', hDb⟩ : ∃ b D', D = b :: D' := by
        have := HN'.out
        have := HAL.out
        match D with
        | [] => simp at *; omega
        | b :: D' => exact ⟨b, D', rfl⟩
      have hb := HADT.out b (.inr (by rw [hDb]; exact List.mem_cons_self))
      have hbks : b ∈ ks := by rw [HSPL.out, hDb]; exact List.mem_append_right _ (List.mem_cons_of_mem _ List.mem_cons_self)
      have hblt : ∀ x, b.F x → x < w.heap.size := fun x hx => HKL.out x ⟨b, hbks, hx⟩
      have hPs : kidsP ks = kidsP A ++ c.p :: b.p :: kidsP D' := by rw [HSPL.out, hDb]; simp [kidsP]
      have hAl : (kidsP A).length = t := by rw [kidsP_len, HAL.out]
      have ga : (kidsP ks).getD t default = c'.p := by
        rw [hPs, HP'.out, getD_app_r _ _ _ (by omega), hAl, Nat.sub_self]; rfl
      have gb : (kidsP ks).getD (t + 1) default = b.p := by
        rw [hPs, getD_app_r _ _ _ (by omega), hAl, show t + 1 - t = 1 by omega]; rfl
      have hbL : b.L.length ≤ 1000000 := by
        have := kids_bound (N := 1000000) hL _ (List.mem_map.2 ⟨b, hbks, rfl⟩); exact this
      have hcb : ∀ x, c'.F x → ¬ b.F x := fun x hx hy => by
        rcases HF'2.out x hx with h1 | h1
        · exact hb.2.2.2 x hy h1
        · have := hblt x hy; omega
      have hpc : ∀ x, nodeF p rv (.slice (some ⟨g, 0, none⟩) n cap) x → ¬ c'.F x := fun x hx hy => by
        rcases HF'2.out x hy with h1 | h1
        · exact HNF.out x hx h1
        · have := HNL.out x hx; omega
      have hszw : w.heap.size ≤ w2.heap.size := HF2.out.size
      have HJ := Lib.hid (join_two (h := h) (a := c') (b := b) t (Nat.le_trans hB hszw) HN2.out (by rw [kidsP_len, ← HNN.out]; exact hlast) (by rw [kidsP_len, ← HNN.out]; omega) ga gb HT'.out hb.1 he8 hb.2.2.1 hcl' hbL hcb hpc (fun x hx hy => HNO.out x hx ⟨b, hbks, hy⟩))
      have HDB := Lib.hid (And.intro hDb (And.intro hb (And.intro hbks (And.intro hPs hAl))))
      have HPC := Lib.hid (And.intro hpc hcb)
      have HX := Lib.hid (And.intro hap' (And.intro hno' (And.intro hks (And.intro hcc hlen'))))
      clear hDb hb hbks hblt hPs hAl ga gb hbL hcb hpc hap' hno' hks hcc hlen' hNN2 hkp hsub'
      go_wp2_with fail
      refine HJ.out.mono ?_
      rintro e w3 ⟨⟨u, rfl⟩, hw3 | ⟨a', sv', hpa', hta', hea', hea4, hLa', hFa', hN3, hsv', hf3⟩⟩
      · have HCB2 := Lib.hid (HCB.out w3 hw3)
        clear hw3
        go_wp2_with fail
        refine HCB2.out.mono ?_
        rintro e w6 ⟨⟨u, rfl⟩, hd6⟩
        have HD6 := Lib.hid hd6
        clear hd6
        go_wp2_with fail
        go_ret2
        exact ⟨rfl, HD6.out⟩
      · obtain ⟨hDb, hb, hbks, hPs, hAl⟩ := HDB.out
        obtain ⟨hap', hno', hks, hcc, hlen'⟩ := HX.out
        have e1 : A ++ [c'] ++ D = A ++ c' :: b :: D' := by rw [hDb]; simp
        rw [e1] at hap' hno' hks hcc hlen'
        obtain ⟨hap3, hsub3⟩ := kids_join (a' := a') (sz := w2.heap.size) hap' (fun x ⟨d, hd, hx⟩ => ((hcc d hd).1.lt x hx).1) hFa'
        have hkp3 : (kidsP ks).take (t + 1) ++ (kidsP ks).drop (t + 2) = kidsP (A ++ a' :: D') := by
          have e2 : kidsP ks = (kidsP A ++ [c.p]) ++ b.p :: kidsP D' := by rw [hPs]; simp
          have e3 : (kidsP A ++ [c.p]).length = t + 1 := by simp [hAl]
          have e4 : kidsP ks = (kidsP A ++ [c.p, b.p]) ++ kidsP D' := by rw [hPs]; simp
          have e5 : (kidsP A ++ [c.p, b.p]).length = t + 2 := by simp [hAl]
          have e6 : (kidsP ks).take (t + 1) = kidsP A ++ [c.p] := by rw [e2, ← e3, List.take_left]
          have e7 : (kidsP ks).drop (t + 2) = kidsP D' := by rw [e4, ← e5, List.drop_left]
          rw [e6, e7]
          simp [kidsP, hpa', HP'.out]
        rw [hkp3] at hN3
        have hkL3 : kidsL (A ++ a' :: D') = delL (kidsL ks) key := by
          rw [← HKLL.out [c'] (by simp [kidsL]), e1]
          simp [kidsL, hLa']
        have hnod : ∀ x, nodeF p rv sv' x → nodeF p rv (.slice (some ⟨g, 0, none⟩) n cap) x := fun x hx => by
          rcases hx with hx | hx | hx
          · exact .inl hx
          · exact .inr (.inl hx)
          · exact .inr (.inr (hsv' x hx))
        have hsz2 : w.heap.size ≤ w2.heap.size := HF2.out.size
        have hF3 : ∀ x, kidsF (A ++ a' :: D') x → kidsF ks x ∨ w.heap.size ≤ x := fun x hx => by
          rcases hsub3 x hx with h1 | h1
          · exact hks x h1
          · exact .inr (by omega)
        have hdj : ∀ d, d ∈ A ∨ d ∈ D → ∀ x, d.F x → ¬ (c'.F x ∨ x = p ∨ (Value.slice (some (⟨g, 0, none⟩ : Addr)) n cap).ownBlock = some x) := fun d hd x hx e => by
          have hdm : d ∈ ks := by rw [HSPL.out]; rcases hd with hd | hd; exact List.mem_append_left _ hd; exact List.mem_append_right _ (List.mem_cons_of_mem _ hd)
          have hdk : kidsF ks x := ⟨d, hdm, hx⟩
          rcases e with e | e | e
          · rcases HF'2.out x e with h1 | h1
            · exact (HADT.out d hd).2.2.2 x hx h1
            · have := HKL.out x hdk; omega
          · exact HNO.out x (.inl e) hdk
          · exact HNO.out x (.inr (.inr e)) hdk
        have HCT3 := Lib.hid (drop_count (w := w) (ks := ks) (sv := .slice (some ⟨g, 0, none⟩) n cap) (key := key) (h := h) hN3 (fun d hd => by
          rcases List.mem_append.1 hd with hd | hd
          · obtain ⟨x1, x2, x3, _⟩ := HADT.out d (.inl hd)
            exact ⟨x1.frm hf3 (hdj d (.inl hd)), x2, x3⟩
          · rcases List.mem_cons.1 hd with rfl | hd
            · exact ⟨hta', by omega, by omega⟩
            · have hd2 : d ∈ D := by rw [hDb]; exact List.mem_cons_of_mem _ hd
              obtain ⟨x1, x2, x3, _⟩ := HADT.out d (.inr hd2)
              exact ⟨x1.frm hf3 (hdj d (.inr hd2)), x2, x3⟩) hap3 (fun x hx hy => by
            rcases hsub3 x hy with h1 | h1
            · exact hno' x (hnod x hx) h1
            · have := HNL.out x (hnod x hx); omega) (by rw [← HNN.out]; simp only [List.length_append, List.length_cons] at hlen' ⊢; omega) (by rw [← HNN.out]; exact h8) hkL3 hL hF3 hsv' (HFw.out.then hf3 fun x hxl e => by
            rcases e with e | e | e
            · rcases HF'2.out x e with h1 | h1
              · exact .inr ⟨c, HCM.out, h1⟩
              · omega
            · exact .inl (.inl e)
            · exact .inl (.inr (.inr e))))
        rw [← HNN.out] at HCT3
        clear hDb hb hbks hPs hAl hap' hno' hks hcc hlen' e1 hap3 hsub3 hkp3 hkL3 hnod hF3 hdj hN3 hf3 hta' hFa' hsv' hLa' hpa' hea' hea4
        go_wp2_with fail
        refine HCT3.out.mono ?_
        rintro e w6 ⟨⟨u, rfl⟩, hd6⟩
        have HD6 := Lib.hid hd6
        clear hd6
        go_wp2_with fail
        go_ret2
        exact ⟨rfl, HD6.out⟩
    · have hl2 : ¬ (t : Int) + 1 < (n : Int) := by omega
      clear hap' hsub' hkp hno' hks hcc hlen' hNN2
      go_wp2_with fail
      refine (HCB.out _ (Below.refl _ _)).mono ?_
      rintro e w6 ⟨⟨u, rfl⟩, hd6⟩
      have HD6 := Lib.hid hd6
      clear hd6
      go_wp2_with fail
      go_ret2
      exact ⟨rfl, HD6.out⟩
theorem drop_any {B : Nat} : ∀ (h : Nat) {w : World} {k : Kid}, TreeAt w B 1 h k → (h = 0 ∨ 1 ≤ k.e) → k.e ≤ 8 → Sorted k.L → k.L.length ≤ 1000000 → B ≤ w.heap.size → ∀ key,
    Calls Try.prog 38 #[.pointer (some ⟨k.p, 0, none⟩), .int .i64 key] w fun e w' => e = .returned (.tuple #[.int .i64 ((getL k.L key).getD 0), .bool (getL k.L key).isSome]) ∧ DropOk w w' B h k key
  | 0, w, k, ⟨rv, sv, hn, he, hF⟩, _, h8, hs, hL, hB, key => by
    refine (drop_leaf hn hs (by omega) hB key).mono ?_
    rintro e w' ⟨he', rv', hn', hr', hf'⟩
    refine ⟨he', ⟨k.p, (delL k.L key).length, delL k.L key, nodeF k.p rv' sv⟩, rfl, ⟨rv', sv, hn', rfl, rfl⟩, rfl, by rw [he]; exact List.length_filter_le _ _, fun x hx => ?_, by rw [hF]; exact hf'⟩
    rw [hF]
    rcases hx with hx | hx | hx
    · exact .inl (.inl hx)
    · exact .inl (.inr (.inl (hr' x hx)))
    · exact .inl (.inr (.inr hx))
  | h + 1, w, k, ⟨rv, sv, ks, hn, he, hkL, hF, hc, hap, hno⟩, h0, h8, hs, hL, hB, key => by
    have := drop_node (fun t h1 h8 hs hL hB key => drop_any h t (.inr h1) h8 hs hL hB key) hn hc hap hno (by omega) (by omega) (by rw [← hkL]; exact hs) (by rw [← hkL]; exact hL) hB key
    obtain ⟨p, e, L, F⟩ := k
    dsimp only at *
    subst he hkL hF
    exact this
end Go.Proofs.Ytdgapagpmdfndaa
