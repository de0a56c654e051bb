/- LAYER 13 (tabula): put, into any part. -/
import Derived.Test.YtdgapagpmdfndaaTabG
namespace Go.Proofs.Ytdgapagpmdfndaa
open Go.RowKit
set_option linter.unusedVariables false
theorem exists_cut {l : List Row} (h : Sorted l) (key : Int) : ∃ t, IsCut l key t := by
  induction l with
  | nil => exact ⟨0, Nat.le_refl _, fun i hi => by omega, fun i _ hi => by simp at hi⟩
  | cons a r ih =>
    obtain ⟨ha, hr⟩ := List.pairwise_cons.1 h
    by_cases hk : a.1 < key
    · obtain ⟨t, h1, h2, h3⟩ := ih hr
      refine ⟨t + 1, by simp; omega, fun i hi => ?_, fun i hi hl => ?_⟩
      · cases i with
        | zero => exact hk
        | succ i => have := h2 i (by omega); simpa using this
      · cases i with
        | zero => omega
        | succ i => have := h3 i (by omega) (by simpa using hl); simpa using this
    · refine ⟨0, Nat.zero_le _, fun i hi => by omega, fun i _ hl => ?_⟩
      cases i with
      | zero => show key ≤ a.1; omega
      | succ i =>
        have hm := getD_mem r i (by simpa using hl)
        have := ha _ hm
        show key ≤ ((a :: r).getD (i + 1) default).1
        have e : (a :: r).getD (i + 1) default = r.getD i default := by simp
        rw [e]
        omega
theorem insL_len {l : List Row} (h : Sorted l) (key v : Int) : l.length ≤ (insL l key v).length ∧ (insL l key v).length ≤ l.length + 1 := by
  obtain ⟨t, ht⟩ := exists_cut h key
  by_cases hk : t < l.length ∧ (l.getD t default).1 = key
  · rw [(cut_there h ht hk.1 hk.2).1 v, List.length_set]; omega
  · rw [(cut_not h ht hk).1 v]
    simp
    have := ht.1
    omega
theorem kidsF_append {a b : List Kid} {x : Nat} : kidsF (a ++ b) x ↔ kidsF a x ∨ kidsF b x := by
  constructor
  · rintro ⟨c, hc, hx⟩
    rcases List.mem_append.1 hc with hc | hc
    · exact .inl ⟨c, hc, hx⟩
    · exact .inr ⟨c, hc, hx⟩
  · rintro (⟨c, hc, hx⟩ | ⟨c, hc, hx⟩)
    · exact ⟨c, List.mem_append_left _ hc, hx⟩
    · exact ⟨c, List.mem_append_right _ hc, hx⟩
theorem kidsF_cons {c : Kid} {b : List Kid} {x : Nat} : kidsF (c :: b) x ↔ c.F x ∨ kidsF b x := by
  constructor
  · rintro ⟨d, hd, hx⟩
    rcases List.mem_cons.1 hd with rfl | hd
    · exact .inl hx
    · exact .inr ⟨d, hd, hx⟩
  · rintro (hx | ⟨d, hd, hx⟩)
    · exact ⟨c, List.mem_cons_self, hx⟩
    · exact ⟨d, List.mem_cons_of_mem _ hd, hx⟩
theorem apart_join {a b : List Kid} (ha : Apart a) (hb : Apart b) (hab : ∀ x, kidsF a x → ¬ kidsF b x) : Apart (a ++ b) :=
  List.pairwise_append.2 ⟨ha, hb, fun c hc d hd x hx hy => hab x ⟨c, hc, hx⟩ ⟨d, hd, hy⟩⟩
/-- One part replaced by others, which have no block but its own and new ones. -/
theorem kids_replace {A D N : List Kid} {c : Kid} {sz : Nat} (hap : Apart (A ++ c :: D)) (hlt : ∀ x, kidsF (A ++ c :: D) x → x < sz) (hN : Apart N) (hF : ∀ x, kidsF N x → c.F x ∨ sz ≤ x) :
    Apart (A ++ N ++ D) ∧ (∀ x, kidsF (A ++ N ++ D) x → kidsF (A ++ c :: D) x ∨ sz ≤ x) := by
  obtain ⟨h1, h2, h3⟩ := apart_split hap
  obtain ⟨h4, h5⟩ := List.pairwise_cons.1 h2
  have hcD : ∀ x, c.F x → ¬ kidsF D x := fun x hx ⟨d, hd, hy⟩ => h4 d hd x hx hy
  refine ⟨apart_join (apart_join h1 hN fun x hx hy => ?_) h5 fun x hx hy => ?_, fun x hx => ?_⟩
  · rcases hF x hy with h6 | h6
    · exact h3 x hx (kidsF_cons.2 (.inl h6))
    · have := hlt x (kidsF_append.2 (.inl hx)); omega
  · rcases kidsF_append.1 hx with hx | hx
    · exact h3 x hx (kidsF_cons.2 (.inr hy))
    · rcases hF x hx with h6 | h6
      · exact hcD x h6 hy
      · have := hlt x (kidsF_append.2 (.inr (kidsF_cons.2 (.inr hy)))); omega
  · rcases kidsF_append.1 hx with hx | hx
    · rcases kidsF_append.1 hx with hx | hx
      · exact .inl (kidsF_append.2 (.inl hx))
      · rcases hF x hx with h6 | h6
        · exact .inl (kidsF_append.2 (.inr (kidsF_cons.2 (.inl h6))))
        · exact .inr h6
    · exact .inl (kidsF_append.2 (.inr (kidsF_cons.2 (.inr hx))))
/-- A part with parts below it, behind count. -/
theorem count_tree {w : World} {B lo h p : Nat} {rv sv : Value} {ks : List Kid} {m : Int} (hn : NodeAt w B p rv sv [] (kidsP ks) m) (hc : ∀ c ∈ ks, TreeAt w B lo h c ∧ lo ≤ c.e ∧ c.e ≤ 8) (hap : Apart ks) (hno : ∀ x, nodeF p rv sv x → ¬ kidsF ks x) (hk : ks.length ≤ 1000) (hL : (kidsL ks).length ≤ 1000000000) :
    Calls Try.prog 36 #[.pointer (some ⟨p, 0, none⟩)] w fun e w' => (∃ v, e = .returned v) ∧ TreeAt w' B lo (h + 1) ⟨p, ks.length, kidsL ks, fun x => nodeF p rv sv x ∨ kidsF ks x⟩ ∧ Frm (fun x => x = p) w w' := by
  refine (count_any hn (ks.map (fun c => c.L.length)) (by rw [kidsP_len, List.length_map]) (kids_cells (fun c hcm => (hc c hcm).1) (hno p (.inl rfl))) (by simp) (by rw [kidsP_len]; exact hk) (kids_bound hL)).mono ?_
  rw [sumN_kids, List.length_nil, Nat.zero_add]
  rintro e w' ⟨he, hn', hf⟩
  refine ⟨he, ⟨rv, sv, ks, hn', rfl, rfl, rfl, fun c hcm => ⟨(hc c hcm).1.frm hf fun x hx e => hno p (.inl rfl) ⟨c, hcm, by rw [← e]; exact hx⟩, (hc c hcm).2⟩, hap, hno⟩, hf⟩
theorem NodeAt.neS {w : World} {B p : Nat} {rv sv : Value} {rows : List Row} {subs : List Nat} {m : Int} (h : NodeAt w B p rv sv rows subs m) (x : Nat) : ¬ sv.ownBlock = some p := fun e => by
  obtain ⟨_, _, cur, hc⟩ := h.ss.block p e
  rw [h.row] at hc
  simp at hc
theorem NodeAt.neR {w : World} {B p : Nat} {rv sv : Value} {rows : List Row} {subs : List Nat} {m : Int} (h : NodeAt w B p rv sv rows subs m) (x : Nat) : ¬ rv.ownBlock = some p := fun e => by
  obtain ⟨_, _, cur, hc⟩ := h.rs.block p e
  rw [h.row] at hc
  simp at hc
/-- What put leaves. -/
def PutOk (w w' : World) (B lo h : Nat) (k : Kid) (key v : Int) : Prop := ∃ k' : Kid, k'.p = k.p ∧ TreeAt w' B lo h k' ∧ k'.L = insL k.L key v ∧ k.e ≤ k'.e ∧ k'.e ≤ k.e + 1 ∧ (∀ x, k'.F x → k.F x ∨ w.heap.size ≤ x) ∧ Frm k.F w w'
set_option maxRecDepth 100000 in
set_option maxHeartbeats 4000000 in
theorem put_node {w : World} {B lo h p : Nat} {rv sv : Value} {ks : List Kid} {m : Int} (hlo : 1 ≤ lo ∧ lo ≤ 4)
    (ih : ∀ {w : World} {k : Kid}, TreeAt w B lo h k → 1 ≤ k.e → k.e ≤ 8 → Sorted k.L → k.L.length ≤ 1000000 → B ≤ w.heap.size → ∀ key v, Calls Try.prog 34 #[.pointer (some ⟨k.p, 0, none⟩), .agg #[.int .i64 key, .int .i64 v]] w fun e w' => e = .returned (.tuple #[.int .i64 ((getL k.L key).getD 0), .bool (getL k.L key).isSome]) ∧ PutOk w w' B lo h k key v)
    (hn : NodeAt w B p rv sv [] (kidsP ks) m) (hc : ∀ c ∈ ks, TreeAt w B lo h c ∧ lo ≤ c.e ∧ c.e ≤ 8) (hap : Apart ks) (hno : ∀ x, nodeF p rv sv x → ¬ kidsF ks x) (h0 : 0 < ks.length) (h8 : ks.length ≤ 8) (hs : Sorted (kidsL ks)) (hL : (kidsL ks).length ≤ 1000000) (hB : B ≤ w.heap.size) (key v : Int) :
    Calls Try.prog 34 #[.pointer (some ⟨p, 0, none⟩), .agg #[.int .i64 key, .int .i64 v]] w fun e w' => e = .returned (.tuple #[.int .i64 ((getL (kidsL ks) key).getD 0), .bool (getL (kidsL ks) key).isSome]) ∧ PutOk w w' B lo (h + 1) ⟨p, ks.length, kidsL ks, fun x => nodeF p rv sv x ∨ kidsF ks x⟩ key v := by
  have hne : ∀ c ∈ ks, c.L ≠ [] := fun c hcm => (hc c hcm).1.pos hlo.1 (Nat.le_trans hlo.1 (hc c hcm).2.1)
  have hklt : ∀ x, kidsF ks x → x < w.heap.size := fun x ⟨c, hcm, hx⟩ => ((hc c hcm).1.lt x hx).1
  have hbx : Below w.heap.size w (w.alloc (.cells #[.int .i64 key, .int .i64 v] 68)) := (Below.refl _ _).alloc (Nat.le_refl _) _
  have hx0 : (w.alloc (.cells #[.int .i64 key, .int .i64 v] 68)).heap[w.heap.size]? = some (.cells #[.int .i64 key, .int .i64 v] 68 (0, 0)) := heap_alloc_new _ _
  have HSUB := Lib.hid (sub_any hlo.1 (hn.below hbx) (fun c hcm => ⟨(hc c hcm).1.below hbx, (hc c hcm).2⟩) h0 (by omega) (lasts_mono hs hne) key)
  have k0 : (w.alloc (.cells #[.int .i64 key, .int .i64 v] 68)).cell? ⟨w.heap.size, 0, none⟩ = some (.int .i64 key) := by rw [cell_of_row _ _ 0 _ _ _ hx0]; rfl
  obtain ⟨n, hnn⟩ : ∃ n, n = ks.length := ⟨_, rfl⟩
  have HNN := Lib.hid hnn
  obtain ⟨c0, c1, c2⟩ := (hn.below hbx).cells
  have hss := hn.ss
  rw [kidsP_len, ← hnn] at hss
  obtain ⟨g, cap, rfl, hBg, hgl, hnc, hcm⟩ := hss.shape (by omega)
  have HNo := Lib.hid hn
  have HC := Lib.hid hc
  have HAP := Lib.hid hap
  have HNO := Lib.hid hno
  have HS := Lib.hid hs
  have HNE := Lib.hid hne
  have HKL := Lib.hid hklt
  have HBX := Lib.hid hbx
  have HX0 := Lib.hid hx0
  have HIH := @ih
  rw [← hnn] at h0 h8 ⊢
  obtain ⟨r, hrr⟩ : ∃ r, r = getL (kidsL ks) key := ⟨_, rfl⟩
  rw [← hrr]
  have HRR := Lib.hid hrr
  clear hn hc hap hno hs hnn hne hklt hbx hx0 ih hss hrr
  go_enter Try.func34, Try.ntmps34
  go_wp2_with fail
  refine HSUB.out.mono ?_
  rintro e w1 ⟨⟨t, rfl, ht⟩, hb1⟩
  obtain ⟨hL1, hA, hD, hSc⟩ := sub_split HS.out HNE.out ht
  have htn : t < n := by rw [HNN.out]; exact ht.1
  have hsp := kids_split ks t ht.1
  have hb2 : Below w.heap.size w w1 := HBX.out.trans (hb1.mono HBX.out.size)
  have hx1 := (hb1.block _ (lt_of_block HX0.out)).trans HX0.out
  have hcm := getD_mem ks t ht.1
  obtain ⟨c, hcd⟩ : ∃ c, c = ks.getD t default := ⟨_, rfl⟩
  rw [← hcd] at hL1 hSc hsp hcm
  have hct := HC.out c hcm
  have hn1 := HNo.out.below hb2
  have hss1 := hn1.ss
  rw [kidsP_len, ← HNN.out] at hss1
  have d1 := hss1.cellAt t (by omega)
  rw [ptrCells_at _ t (by rw [kidsP_len, ← HNN.out]; exact htn), kidsP_at _ _ ht.1, ← hcd] at d1
  obtain ⟨a0, a1, a2⟩ := hn1.cells
  have a1 : w1.cell? ⟨p, 1, none⟩ = some (.slice (some ⟨g, 0, none⟩) n cap) := a1
  have k0 : w1.cell? ⟨w.heap.size, 0, none⟩ = some (.int .i64 key) := by rw [cell_of_row _ _ 0 _ _ _ hx1]; rfl
  have k1 : w1.cell? ⟨w.heap.size, 1, none⟩ = some (.int .i64 v) := by rw [cell_of_row _ _ 1 _ _ _ hx1]; rfl
  have hgl2 : getL c.L key = r := by rw [HRR.out, hL1]; exact (getL_mid hA hD).symm
  have hcLlen : c.L.length ≤ 1000000 := by rw [hL1] at hL; simp only [List.length_append] at hL; omega
  have HPUT : Hid (∀ w', Below w1.heap.size w1 w' → Calls Try.prog 34 #[.pointer (some ⟨c.p, 0, none⟩), .agg #[.int .i64 key, .int .i64 v]] w' fun e w2 => e = .returned (.tuple #[.int .i64 ((getL c.L key).getD 0), .bool (getL c.L key).isSome]) ∧ PutOk w' w2 B lo h c key v) := Lib.hid fun w' hb' =>
    HIH ((hct.1.below hb2).below hb') (Nat.le_trans hlo.1 hct.2.1) hct.2.2 hSc hcLlen (Nat.le_trans (Nat.le_trans hB hb2.size) hb'.size) key v
  have hpF : ¬ c.F p := fun hx => HNO.out p (.inl rfl) ⟨c, hcm, hx⟩
  have hgF : ¬ c.F g := fun hx => HNO.out g (.inr (.inr rfl)) ⟨c, hcm, hx⟩
  have hxF : ¬ c.F w.heap.size := fun hx => by have := HKL.out _ ⟨c, hcm, hx⟩; omega
  have HKS : Hid (∀ w' w2 : World, (w'.cell? ⟨p, 1, none⟩ = some (.slice (some ⟨g, 0, none⟩) n cap) ∧ w'.cell? ⟨g, t, none⟩ = some (.pointer (some ⟨c.p, 0, none⟩)) ∧ w'.cell? ⟨w.heap.size, 0, none⟩ = some (.int .i64 key) ∧ w'.cell? ⟨w.heap.size, 1, none⟩ = some (.int .i64 v)) → Frm c.F w' w2 →
      (w2.cell? ⟨p, 1, none⟩ = some (.slice (some ⟨g, 0, none⟩) n cap) ∧ w2.cell? ⟨g, t, none⟩ = some (.pointer (some ⟨c.p, 0, none⟩)) ∧ w2.cell? ⟨w.heap.size, 0, none⟩ = some (.int .i64 key) ∧ w2.cell? ⟨w.heap.size, 1, none⟩ = some (.int .i64 v))) := Lib.hid fun w' w2 h1 h2 =>
    ⟨(h2.cell (by exact block_lt_of_cell h1.1) (by exact hpF)).trans h1.1, (h2.cell (by exact block_lt_of_cell h1.2.1) (by exact hgF)).trans h1.2.1, (h2.cell (by exact block_lt_of_cell h1.2.2.1) (by exact hxF)).trans h1.2.2.1, (h2.cell (by exact block_lt_of_cell h1.2.2.2) (by exact hxF)).trans h1.2.2.2⟩
  have HL1 := Lib.hid hL1
  have HAD := Lib.hid (And.intro hA hD)
  have HSP := Lib.hid hsp
  have HCM := Lib.hid hcm
  have HCT := Lib.hid hct
  have HB2 := Lib.hid hb2
  have HTT := Lib.hid ht
  have z2 : (t : Int) < (n : Int) := by omega
  rw [hgl2] at HPUT
  clear hL1 hA hD hSc hsp hx1 hcm hcd hct hn1 hss1 a0 a2 hgl2 hpF hgF hxF hb1 hb2 HSUB ht c0 c1 c2
  go_wp2_with fail
  go_region_held3 (fun w' => w'.cell? ⟨p, 1, none⟩ = some (.slice (some ⟨g, 0, none⟩) n cap) ∧ w'.cell? ⟨g, t, none⟩ = some (.pointer (some ⟨c.p, 0, none⟩)) ∧ w'.cell? ⟨w.heap.size, 0, none⟩ = some (.int .i64 key) ∧ w'.cell? ⟨w.heap.size, 1, none⟩ = some (.int .i64 v))
    (first | exact HKS.out _ _ (by assumption) (by assumption) | exact ⟨a1, d1, k0, k1⟩ | go_keep)
    (first | (go_at_call 34; refine (HPUT.out _ (Below.refl _ _).drew).mono ?_; rintro e w2 ⟨rfl, c', hp', ht', hL', he1, he2, hF', hf'⟩))
  have hHd := (by assumption : w2.cell? ⟨p, 1, none⟩ = some (.slice (some ⟨g, 0, none⟩) n cap) ∧ w2.cell? ⟨g, t, none⟩ = some (.pointer (some ⟨c.p, 0, none⟩)) ∧ w2.cell? ⟨w.heap.size, 0, none⟩ = some (.int .i64 key) ∧ w2.cell? ⟨w.heap.size, 1, none⟩ = some (.int .i64 v))
  obtain ⟨b1, e1, _, _⟩ := hHd
  have hsz1 : w.heap.size ≤ w1.heap.size := HB2.out.size
  have hF2 : Frm c.F w w2 := (Frm.of_below HB2.out).drew.trans hf'
  have hF'2 : ∀ x, c'.F x → c.F x ∨ w.heap.size ≤ x := fun x hx => (hF' x hx).imp id fun h => Nat.le_trans hsz1 h
  have hnF : ∀ x, nodeF p rv (.slice (some ⟨g, 0, none⟩) n cap) x → ¬ c.F x := fun x hx hy => HNO.out x hx ⟨c, HCM.out, hy⟩
  have hnlt : ∀ x, nodeF p rv (.slice (some ⟨g, 0, none⟩) n cap) x → x < w.heap.size := fun x hx => (HNo.out.lt x hx).1
  have hN2 := HNo.out.keep fun x hx => hF2.block x (hnlt x hx) (hnF x hx)
  obtain ⟨A, hA⟩ : ∃ A, A = ks.take t := ⟨_, rfl⟩
  obtain ⟨D, hD⟩ : ∃ D, D = ks.drop (t + 1) := ⟨_, rfl⟩
  have hsp := HSP.out
  rw [← hA, ← hD] at hsp
  have hap := HAP.out
  rw [hsp] at hap
  have hall : ∀ x, kidsF (A ++ c :: D) x → x < w.heap.size := fun x hx => HKL.out x (by rw [hsp]; exact hx)
  have hAl : A.length = t := by rw [hA, List.length_take, ← HNN.out]; omega
  have hAD : ∀ d, d ∈ A ∨ d ∈ D → TreeAt w2 B lo h d ∧ lo ≤ d.e ∧ d.e ≤ 8 ∧ ∀ x, d.F x → ¬ c.F x := fun d hd => by
    have hdm : d ∈ ks := by rw [hsp]; rcases hd with hd | hd; exact List.mem_append_left _ hd; exact List.mem_append_right _ (List.mem_cons_of_mem _ hd)
    obtain ⟨h1, h2, h3⟩ := apart_split hap
    obtain ⟨h4, h5⟩ := List.pairwise_cons.1 h2
    have hdis : ∀ x, d.F x → ¬ c.F x := fun x hx hy => by
      rcases hd with hd | hd
      · exact h3 x ⟨d, hd, hx⟩ (kidsF_cons.2 (.inl hy))
      · exact h4 d hd x hy hx
    exact ⟨(HC.out d hdm).1.frm hF2 hdis, (HC.out d hdm).2.1, (HC.out d hdm).2.2, hdis⟩
  have hkL : ∀ N : List Kid, kidsL N = c'.L → kidsL (A ++ N ++ D) = insL (kidsL ks) key v := fun N hN => by
    rw [kidsL_append, kidsL_append, hN, hL', HL1.out, insL_mid HAD.out.1 HAD.out.2, hA, hD]
  have hLb : (insL (kidsL ks) key v).length ≤ 1000000000 := by have := (insL_len HS.out key v).2; omega
  have HA := Lib.hid hA
  have HD := Lib.hid hD
  have HF2 := Lib.hid hF2
  have HF'2 := Lib.hid hF'2
  have HNF := Lib.hid hnF
  have HNL := Lib.hid hnlt
  have HN2 := Lib.hid hN2
  have HSPL := Lib.hid hsp
  have HAPP := Lib.hid hap
  have HALL := Lib.hid hall
  have HAL := Lib.hid hAl
  have HADT := Lib.hid hAD
  have HKLL := Lib.hid hkL
  have HLB := Lib.hid hLb
  have HT' := Lib.hid ht'
  have HP' := Lib.hid hp'
  clear hA hD hF2 hF'2 hnF hnlt hN2 hsp hap hall hAl hAD hkL hLb ht' hp' hF' hf' hL' HPUT HKS HIH a1 d1 k0 k1
  by_cases h9 : c'.e ≤ 8
  · have HSN := Lib.hid (split_no_tree HT'.out h9)
    rw [HP'.out] at HSN
    obtain ⟨hap', hsub'⟩ := kids_replace HAPP.out HALL.out (N := [c']) (List.pairwise_singleton _ _) (fun x hx => HF'2.out x (by
      obtain ⟨d, hd, hx⟩ := hx
      obtain rfl := List.mem_singleton.1 hd
      exact hx))
    have hkp : kidsP (A ++ [c'] ++ D) = kidsP ks := by
      rw [HSPL.out]; simp [kidsP, HP'.out]
    have hNN2 := HN2.out
    rw [← hkp] at hNN2
    have hlen' : (A ++ [c'] ++ D).length = n := by
      have := congrArg List.length HSPL.out
      simp only [List.length_append, List.length_cons] at this ⊢
      simp
      have := HNN.out
      omega
    have hno' : ∀ x, nodeF p rv (.slice (some ⟨g, 0, none⟩) n cap) x → ¬ kidsF (A ++ [c'] ++ D) x := fun x hx hy => by
      rcases hsub' x hy with h1 | h1
      · rw [← HSPL.out] at h1; exact HNO.out x hx h1
      · have := HNL.out x hx; omega
    have HCT2 := Lib.hid (count_tree hNN2 (fun d hd => by
      rcases List.mem_append.1 hd with hd | hd
      · rcases List.mem_append.1 hd with hd | hd
        · obtain ⟨x1, x2, x3, _⟩ := HADT.out d (.inl hd); exact ⟨x1, x2, x3⟩
        · obtain rfl := List.mem_singleton.1 hd
          exact ⟨HT'.out, Nat.le_trans HCT.out.2.1 he1, h9⟩
      · obtain ⟨x1, x2, x3, _⟩ := HADT.out d (.inr hd); exact ⟨x1, x2, x3⟩) hap' hno' (by rw [hlen']; omega) (by rw [HKLL.out [c'] (by simp [kidsL])]; exact HLB.out))
    rw [HKLL.out [c'] (by simp [kidsL]), hlen'] at HCT2
    have HSU := Lib.hid hsub'
    clear hap' hsub' hNN2 hno' hkp hlen'
    go_wp2_with fail
    refine HSN.out.mono ?_
    rintro e w3 ⟨rfl, rfl⟩
    go_wp2_with fail
    refine HCT2.out.mono ?_
    rintro e w4 ⟨⟨u, rfl⟩, ht4, hf4⟩
    have HT4 := Lib.hid ht4
    have HF4 := Lib.hid hf4
    clear ht4 hf4
    go_wp2_with fail
    go_ret2
    refine ⟨rfl, ⟨p, n, insL (kidsL ks) key v, _⟩, rfl, HT4.out, rfl, Nat.le_refl _, Nat.le_succ _, fun x hx => ?_, ?_⟩
    · rcases hx with hx | hx
      · exact .inl (.inl hx)
      · rcases HSU.out x hx with h1 | h1
        · rw [← HSPL.out] at h1; exact .inl (.inr h1)
        · exact .inr h1
    · exact (HF2.out.weak fun x _ hx => .inr ⟨c, HCM.out, hx⟩).then HF4.out fun x _ e => .inl (.inl e)
  · have he9 : c'.e = 9 := by have := HCT.out.2.2; omega
    have hcl' : c'.L.length ≤ 1000000000 := by
      have h1 := congrArg List.length (HKLL.out [c'] (by simp [kidsL]))
      rw [kidsL_append, kidsL_append] at h1
      simp only [List.length_append] at h1
      have h4 : (kidsL [c']).length = c'.L.length := by simp [kidsL]
      have := HLB.out
      omega
    have hszw : w.heap.size ≤ w2.heap.size := HF2.out.size
    have HSN := Lib.hid (split_tree hlo.2 HT'.out he9 (Nat.le_trans hB hszw) hcl')
    rw [HP'.out] at HSN
    go_wp2_with fail
    refine HSN.out.mono ?_
    rintro e w3 ⟨a, b, rfl, hap1, hat, hbt, hab, hae, hbe, haF, hbF, hdis, hf3⟩
    have hc'p : ∀ x, nodeF p rv (.slice (some ⟨g, 0, none⟩) n cap) x → ¬ c'.F x := fun x hx hy => by
      rcases HF'2.out x hy with h1 | h1
      · exact HNF.out x hx h1
      · have := HNL.out x hx; omega
    have hN3 := HN2.out.keep fun x hx => hf3.block x (Nat.lt_of_lt_of_le (HNL.out x hx) hszw) (hc'p x hx)
    have hadF : ∀ d, d ∈ A ∨ d ∈ D → ∀ x, d.F x → ¬ c'.F x := fun d hd x hx hy => by
      rcases HF'2.out x hy with h1 | h1
      · exact (HADT.out d hd).2.2.2 x hx h1
      · have := HALL.out x (by
          rcases hd with hd | hd
          · exact kidsF_append.2 (.inl ⟨d, hd, hx⟩)
          · exact kidsF_append.2 (.inr (kidsF_cons.2 (.inr ⟨d, hd, hx⟩))))
        omega
    have hk3 : ∀ d ∈ A ++ [a, b] ++ D, TreeAt w3 B lo h d ∧ lo ≤ d.e ∧ d.e ≤ 8 := fun d hd => by
      rcases List.mem_append.1 hd with hd | hd
      · rcases List.mem_append.1 hd with hd | hd
        · obtain ⟨x1, x2, x3, _⟩ := HADT.out d (.inl hd); exact ⟨x1.frm hf3 (hadF d (.inl hd)), x2, x3⟩
        · rcases List.mem_cons.1 hd with rfl | hd
          · exact ⟨hat, by have := hlo.2; omega, by omega⟩
          · obtain rfl := List.mem_singleton.1 hd
            exact ⟨hbt, by have := hlo.2; omega, by omega⟩
      · obtain ⟨x1, x2, x3, _⟩ := HADT.out d (.inr hd); exact ⟨x1.frm hf3 (hadF d (.inr hd)), x2, x3⟩
    have habF : ∀ x, kidsF [a, b] x → c.F x ∨ w.heap.size ≤ x := fun x hx => by
      rcases kidsF_cons.1 hx with hx | hx
      · exact HF'2.out x (haF x hx)
      · rcases kidsF_cons.1 hx with hx | ⟨d, hd, _⟩
        · rcases hbF x hx with h1 | h1
          · exact HF'2.out x h1
          · exact .inr (Nat.le_trans hszw h1)
        · cases hd
    obtain ⟨hap', hsub'⟩ := kids_replace HAPP.out HALL.out (N := [a, b]) (List.pairwise_cons.2 ⟨fun d hd => by obtain rfl := List.mem_singleton.1 hd; exact hdis, List.pairwise_singleton _ _⟩) habF
    have hno3 : ∀ x, nodeF p rv (.slice (some ⟨g, 0, none⟩) n cap) x → ¬ kidsF (A ++ [a, b] ++ D) x := fun x hx hy => by
      rcases hsub' x hy with h1 | h1
      · rw [← HSPL.out] at h1; exact HNO.out x hx h1
      · have := HNL.out x hx; omega
    have hlen' : (A ++ [a, b] ++ D).length = n + 1 := by
      have := congrArg List.length HSPL.out
      simp only [List.length_append, List.length_cons] at this ⊢
      simp
      have := HNN.out
      omega
    have hkp : kidsP (A ++ [a, b] ++ D) = (kidsP ks).take (t + 1) ++ b.p :: (kidsP ks).drop (t + 1) := by
      have e0 : kidsP ks = (kidsP A ++ [a.p]) ++ kidsP D := by rw [HSPL.out, hap1]; simp [kidsP]
      have e1 : (kidsP A ++ [a.p]).length = t + 1 := by simp [kidsP, HAL.out]
      rw [e0, ← e1, List.take_left, List.drop_left]
      simp [kidsP]
    obtain ⟨g0, g1, g2⟩ := hN3.cells
    have g1 : w3.cell? ⟨p, 1, none⟩ = some (.slice (some ⟨g, 0, none⟩) n cap) := g1
    have hplt : p < w3.heap.size := lt_of_block hN3.row
    have hB3 : B ≤ w3.heap.size := by have := HNL.out p (.inl rfl); have := HNo.out.bp; omega
    have hszw3 : w.heap.size ≤ w3.heap.size := Nat.le_trans hszw hf3.size
    have HINS : Hid (Calls Try.prog 44 #[.slice (some ⟨g, 0, none⟩) n cap, .int .i64 ((t : Int) + 1), .pointer (some ⟨b.p, 0, none⟩)] w3 fun e w' => ∃ v', e = .returned v' ∧ OwnS w' B 55 1 v' (n + 1) (ptrCells ((kidsP ks).take (t + 1) ++ b.p :: (kidsP ks).drop (t + 1))) ∧ Frm (fun x => (Value.slice (some (⟨g, 0, none⟩ : Addr)) n cap).ownBlock = some x) w3 w' ∧ (∀ r, v'.ownBlock = some r → (Value.slice (some (⟨g, 0, none⟩ : Addr)) n cap).ownBlock = some r ∨ w3.heap.size ≤ r)) := Lib.hid (by
      have hss3 := hN3.ss
      have := insP_any hss3 hB3 (t + 1) b.p (by rw [kidsP_len, ← HNN.out]; omega) (by rw [kidsP_len, ← HNN.out]; omega)
      rw [kidsP_len, ← HNN.out] at this
      exact this)
    rw [← hkp] at HINS
    have HF3 : Hid (Frm (fun x => nodeF p rv (.slice (some ⟨g, 0, none⟩) n cap) x ∨ kidsF ks x) w w3) := Lib.hid ((HF2.out.weak fun x _ hx => .inr ⟨c, HCM.out, hx⟩).then hf3 fun x hx hy => by
      rcases HF'2.out x hy with h1 | h1
      · exact .inr ⟨c, HCM.out, h1⟩
      · omega)
    have HN3 := Lib.hid hN3
    have HK3 := Lib.hid hk3
    have HAP3 := Lib.hid hap'
    have HNO3 := Lib.hid hno3
    have HSU3 := Lib.hid hsub'
    have HLEN := Lib.hid hlen'
    have HLL := Lib.hid (HKLL.out [a, b] (by simp [kidsL, hab]))
    have hpg : ¬ (Value.slice (some (⟨g, 0, none⟩ : Addr)) n cap).ownBlock = some p := HN3.out.neS p
    clear hN3 hk3 hap' hno3 hsub' hlen' hkp hap1 hat hbt hab hae hbe haF hbF hdis hf3 hc'p hadF habF g0 g2
    go_wp2_with (first | (go_at_call 44; refine HINS.out.mono ?_; rintro e w4 ⟨v', rfl, hoI, hfI, hnI⟩; obtain ⟨va', vc', rfl⟩ := hoI.len; have q1 := (hfI.cell (p := ⟨p, 1, none⟩) (by exact hplt) hpg).trans g1; have q2 := free_row ((hfI.block p (by exact hplt) hpg).trans HN3.out.row) 1))
    have hsb : ∀ x, rv.ownBlock = some x → ¬ (Value.slice (some (⟨g, 0, none⟩ : Addr)) n cap).ownBlock = some x := fun x hx e => by
      obtain ⟨_, _, c1, h1⟩ := HN3.out.rs.block x hx
      obtain ⟨_, _, c2, h2⟩ := HN3.out.ss.block x e
      rw [h1] at h2
      simp at h2
    have hoI' : OwnS w4 B 55 1 (.slice va' (n + 1) vc') (kidsP (A ++ [a, b] ++ D)).length (ptrCells (kidsP (A ++ [a, b] ++ D))) := by rw [kidsP_len, HLEN.out]; exact hoI
    have HN5 := Lib.hid (HN3.out.setSubs (w' := w4) (fun x hx => by
      rcases hx with rfl | hx
      · exact hfI.block _ (by exact hplt) hpg
      · exact hfI.block _ (by exact (HN3.out.lt x (.inr (.inl hx))).1) (hsb x hx)) hoI')
    have hgx : ∀ x, (Value.slice (some (⟨g, 0, none⟩ : Addr)) n cap).ownBlock = some x → x = g := fun x e => by
      have h1 : g = x := by simpa [Value.ownBlock] using e
      exact h1.symm
    have hF5 : Frm (fun x => x = p ∨ x = g) w3 (w4.setCell ⟨p, 1, none⟩ (.slice va' (n + 1) vc')) := (hfI.weak (G := fun x => x = p ∨ x = g) fun x _ e => .inr (hgx x e)).setCell (p := ⟨p, 1, none⟩) (.inl (.inl rfl)) _
    generalize World.setCell w4 _ _ = w5 at *
    have hkk : ∀ d ∈ A ++ [a, b] ++ D, TreeAt w5 B lo h d ∧ lo ≤ d.e ∧ d.e ≤ 8 := fun d hd => ⟨(HK3.out d hd).1.frm hF5 fun x hx e => by
      rcases e with e | e
      · exact HNO3.out p (.inl rfl) ⟨d, hd, by rw [← e]; exact hx⟩
      · exact HNO3.out g (.inr (.inr rfl)) ⟨d, hd, by rw [← e]; exact hx⟩, (HK3.out d hd).2⟩
    have hno5 : ∀ x, nodeF p rv (.slice va' (n + 1) vc') x → ¬ kidsF (A ++ [a, b] ++ D) x := fun x hx hy => by
      rcases hx with hx | hx | hx
      · exact HNO3.out x (.inl hx) hy
      · exact HNO3.out x (.inr (.inl hx)) hy
      · rcases hnI x hx with h1 | h1
        · exact HNO3.out x (.inr (.inr h1)) hy
        · obtain ⟨d, hd, hy⟩ := hy
          have := ((HK3.out d hd).1.lt x hy).1
          omega
    have HCT2 := Lib.hid (count_tree HN5.out hkk HAP3.out hno5 (by rw [HLEN.out]; omega) (by rw [HLL.out]; exact HLB.out))
    rw [HLL.out, HLEN.out] at HCT2
    have HF5 := Lib.hid hF5
    have HNI := Lib.hid hnI
    clear hoI hoI' hF5 hkk hno5 hnI hfI q1 q2 hsb
    refine HCT2.out.mono ?_
    rintro e w6 ⟨⟨u, rfl⟩, ht6, hf6⟩
    have HT6 := Lib.hid ht6
    have HF6 := Lib.hid hf6
    clear ht6 hf6
    go_wp2_with fail
    go_ret2
    refine ⟨rfl, ⟨p, n + 1, insL (kidsL ks) key v, _⟩, rfl, HT6.out, rfl, Nat.le_succ _, Nat.le_refl _, fun x hx => ?_, ?_⟩
    · rcases hx with hx | hx
      · rcases hx with hx | hx | hx
        · exact .inl (.inl (.inl hx))
        · exact .inl (.inl (.inr (.inl hx)))
        · rcases HNI.out x hx with h1 | h1
          · exact .inl (.inl (.inr (.inr h1)))
          · exact .inr (Nat.le_trans hszw3 h1)
      · rcases HSU3.out x hx with h1 | h1
        · rw [← HSPL.out] at h1; exact .inl (.inr h1)
        · exact .inr h1
    · exact (HF3.out.then HF5.out fun x _ e => by
        rcases e with e | e
        · exact .inl (.inl e)
        · exact .inl (.inr (.inr (by rw [e]; rfl)))).then HF6.out fun x _ e => .inl (.inl e)
theorem put_any {B lo : Nat} (hlo : 1 ≤ lo ∧ lo ≤ 4) : ∀ (h : Nat) {w : World} {k : Kid}, TreeAt w B lo h k → (h = 0 ∨ 1 ≤ k.e) → k.e ≤ 8 → Sorted k.L → k.L.length ≤ 1000000 → B ≤ w.heap.size → ∀ key v,
    Calls Try.prog 34 #[.pointer (some ⟨k.p, 0, none⟩), .agg #[.int .i64 key, .int .i64 v]] w fun e w' => e = .returned (.tuple #[.int .i64 ((getL k.L key).getD 0), .bool (getL k.L key).isSome]) ∧ PutOk w w' B lo h k key v
  | 0, w, k, ⟨rv, sv, hn, he, hF⟩, _, h8, hs, hL, hB, key, v => by
    refine (put_leaf hn hs (by omega) hB key v).mono ?_
    rintro e w' ⟨he', rv', hn', hr', hf'⟩
    have hl := insL_len hs key v
    refine ⟨he', ⟨k.p, (insL k.L key v).length, insL k.L key v, nodeF k.p rv' sv⟩, rfl, ⟨rv', sv, hn', rfl, rfl⟩, rfl, by rw [he]; exact hl.1, by rw [he]; exact hl.2, fun x hx => ?_, by rw [hF]; exact hf'⟩
    rw [hF]
    rcases hx with hx | hx | hx
    · exact .inl (.inl hx)
    · exact (hr' x hx).imp (fun h => .inr (.inl h)) id
    · exact .inl (.inr (.inr hx))
  | h + 1, w, k, ⟨rv, sv, ks, hn, he, hkL, hF, hc, hap, hno⟩, h0, h8, hs, hL, hB, key, v => by
    have := put_node hlo (fun t h1 h8 hs hL hB key v => put_any hlo h t (.inr h1) h8 hs hL hB key v) hn hc hap hno (by omega) (by omega) (by rw [← hkL]; exact hs) (by rw [← hkL]; exact hL) hB key v
    obtain ⟨p, e, L, F⟩ := k
    dsimp only at *
    subst he hkL hF
    exact this
end Go.Proofs.Ytdgapagpmdfndaa
