/- LAYER 13 (tabula): split, of a whole part. -/
import Derived.Test.YtdgapagpmdfndaaTabE
import Derived.Test.YtdgapagpmdfndaaTabP
namespace Go.Proofs.Ytdgapagpmdfndaa
open Go.RowKit
set_option linter.unusedVariables false
theorem foldl_add (l : List Nat) : ∀ a, l.foldl (· + ·) a = a + l.foldl (· + ·) 0 := by
  induction l with
  | nil => intro a; rfl
  | cons x r ih =>
    intro a
    rw [List.foldl_cons, List.foldl_cons, ih (a + x), ih (0 + x)]
    omega
theorem sumN_cons (x : Nat) (l : List Nat) : sumN (x :: l) = x + sumN l := by
  unfold sumN
  rw [List.foldl_cons, foldl_add]
  omega
theorem sumN_kids (ks : List Kid) : sumN (ks.map (fun c => c.L.length)) = (kidsL ks).length := by
  induction ks with
  | nil => rfl
  | cons c r ih =>
    rw [List.map_cons, sumN_cons, ih]
    simp [kidsL]
/-- What each part below tells. -/
theorem TreeAt.cell {w : World} {B lo h : Nat} {k : Kid} (t : TreeAt w B lo h k) : w.cell? ⟨k.p, 2, none⟩ = some (.int .i64 (k.L.length : Nat)) := by
  cases h with
  | zero => obtain ⟨rv, sv, hn, _⟩ := t; exact hn.cells.2.2
  | succ h => obtain ⟨rv, sv, ks, hn, _⟩ := t; exact hn.cells.2.2
/-- Of parts of which one is another now. -/
theorem kids_cells {w : World} {B lo h : Nat} {ks : List Kid} {p : Nat} (hc : ∀ c ∈ ks, TreeAt w B lo h c) (hp : ¬ kidsF ks p) : ∀ i, i < (kidsP ks).length → w.cell? ⟨(kidsP ks).getD i default, 2, none⟩ = some (.int .i64 ((ks.map (fun c => c.L.length)).getD i default : Nat)) ∧ (kidsP ks).getD i default ≠ p := by
  intro i hi
  rw [kidsP_len] at hi
  have hm := getD_mem ks i hi
  rw [kidsP_at _ _ hi]
  have e : (ks.map (fun c => c.L.length)).getD i default = (ks.getD i default).L.length := by simp [hi]
  rw [e]
  refine ⟨(hc _ hm).cell, fun e => hp ⟨_, hm, ?_⟩⟩
  rw [← e]
  exact (hc _ hm).own
theorem kids_bound {ks : List Kid} {N : Nat} (h : (kidsL ks).length ≤ N) : ∀ x ∈ ks.map (fun c => c.L.length), x ≤ N := by
  intro x hx
  obtain ⟨c, hc, rfl⟩ := List.mem_map.1 hx
  induction ks with
  | nil => cases hc
  | cons a r ih =>
    simp only [kidsL, List.flatMap_cons, List.length_append] at h ih
    rcases List.mem_cons.1 hc with rfl | hc
    · omega
    · exact ih (by omega) hc (List.mem_map.2 ⟨c, hc, rfl⟩)
theorem kidsF_take {ks : List Kid} {n x : Nat} (h : kidsF (ks.take n) x) : kidsF ks x := by
  obtain ⟨c, hc, hx⟩ := h
  exact ⟨c, List.mem_of_mem_take hc, hx⟩
theorem kidsF_drop {ks : List Kid} {n x : Nat} (h : kidsF (ks.drop n) x) : kidsF ks x := by
  obtain ⟨c, hc, hx⟩ := h
  exact ⟨c, List.mem_of_mem_drop hc, hx⟩
theorem apart_split {a b : List Kid} (h : Apart (a ++ b)) : Apart a ∧ Apart b ∧ ∀ x, kidsF a x → ¬ kidsF b x := by
  obtain ⟨h1, h2, h3⟩ := List.pairwise_append.1 h
  refine ⟨h1, h2, fun x ⟨c, hc, hx⟩ ⟨d, hd, hy⟩ => h3 c hc d hd x hx hy⟩
theorem split_no_tree {w : World} {B lo h : Nat} {k : Kid} (t : TreeAt w B lo h k) (h8 : k.e ≤ 8) : Calls Try.prog 35 #[.pointer (some ⟨k.p, 0, none⟩)] w fun e w' => e = .returned (.pointer none) ∧ w' = w := by
  cases h with
  | zero => obtain ⟨rv, sv, hn, he, _⟩ := t; exact split_no hn (by omega) (by simp)
  | succ h => obtain ⟨rv, sv, ks, hn, he, _⟩ := t; exact split_no hn (by simp) (by rw [kidsP_len]; omega)
theorem split_tree {w : World} {B lo h : Nat} {k : Kid} (hlo : lo ≤ 4) (t : TreeAt w B lo h k) (h9 : k.e = 9) (hB : B ≤ w.heap.size) (hL : k.L.length ≤ 1000000000) :
    Calls Try.prog 35 #[.pointer (some ⟨k.p, 0, none⟩)] w fun e w' => ∃ a b : Kid, e = .returned (.pointer (some ⟨b.p, 0, none⟩)) ∧ a.p = k.p ∧ TreeAt w' B lo h a ∧ TreeAt w' B lo h b ∧ a.L ++ b.L = k.L ∧ a.e = 4 ∧ b.e = 5 ∧
      (∀ x, a.F x → k.F x) ∧ (∀ x, b.F x → k.F x ∨ w.heap.size ≤ x) ∧ (∀ x, a.F x → ¬ b.F x) ∧ Frm k.F w w' := by
  have hlt := t.lt
  cases h with
  | zero =>
    obtain ⟨rv, sv, hn, he, hF⟩ := t
    have hl9 : k.L.length = 9 := by omega
    have := split_rows hn (by omega) (by omega) hB
    rw [hl9] at this
    refine this.mono ?_
    rintro e w' ⟨q, rv', rvq, rfl, hA, hQ, h1, h2, hf⟩
    have ha : ∀ x, nodeF k.p rv' sv x → k.F x := fun x hx => by
      rw [hF]
      rcases hx with hx | hx | hx
      · exact .inl hx
      · exact .inr (.inl (h1 x hx))
      · exact .inr (.inr hx)
    refine ⟨⟨k.p, 4, k.L.take 4, nodeF k.p rv' sv⟩, ⟨q, 5, k.L.drop 4, nodeF q rvq (.slice none 0 0)⟩, rfl, rfl, ⟨rv', sv, ?_, ?_, rfl⟩, ⟨rvq, _, ?_, ?_, rfl⟩, ?_, rfl, rfl, ha, fun x hx => .inr (h2 x hx), fun x hx hy => ?_, hf.weak fun x _ e => ?_⟩
    · have e : (k.L.take 4).length = 4 := by rw [List.length_take]; omega
      rw [e]; exact hA
    · show 4 = (k.L.take 4).length
      rw [List.length_take]; omega
    · have e : (k.L.drop 4).length = 5 := by rw [List.length_drop]; omega
      rw [e]; exact hQ
    · show 5 = (k.L.drop 4).length
      rw [List.length_drop]; omega
    · exact List.take_append_drop 4 k.L
    · have := (hlt x (ha x hx)).1
      have := h2 x hy
      omega
    · rw [e, hF]; exact .inl rfl
  | succ h =>
    obtain ⟨rv, sv, ks, hn, he, hkL, hF, hc, hap, hno⟩ := t
    have hl9 : ks.length = 9 := by omega
    have hrv : rv.ownBlock = none ∨ ∃ x, rv.ownBlock = some x := by
      cases rv.ownBlock with
      | none => exact .inl rfl
      | some x => exact .inr ⟨x, rfl⟩
    have := split_subs hn (by rw [kidsP_len]; omega) (by rw [kidsP_len]; omega) hB (ks.map (fun c => c.L.length)) (by rw [kidsP_len, List.length_map]) (kids_cells (fun c hcm => (hc c hcm).1) (hno k.p (.inl rfl))) (fun x hx => by have := kids_bound (N := 1000000000) (by rw [← hkL]; exact hL) x hx; omega)
    rw [kidsP_len, hl9] at this
    refine this.mono ?_
    rintro e w' ⟨q, sv', svq, rfl, hA, hQ, h1, h2, hf⟩
    have hap2 := apart_split (a := ks.take 4) (b := ks.drop 4) (by rw [List.take_append_drop]; exact hap)
    have hkid : ∀ c ∈ ks, TreeAt w' B lo h c ∧ lo ≤ c.e ∧ c.e ≤ 8 := fun c hcm => ⟨(hc c hcm).1.frm hf fun x hx e => hno k.p (.inl rfl) ⟨c, hcm, by rw [← e]; exact hx⟩, (hc c hcm).2⟩
    have hklt : ∀ x, kidsF ks x → x < w.heap.size := fun x ⟨c, hcm, hx⟩ => ((hc c hcm).1.lt x hx).1
    have hn4 : ∀ x, nodeF k.p rv sv' x → nodeF k.p rv sv x := fun x hx => by
      rcases hx with hx | hx | hx
      · exact .inl hx
      · exact .inr (.inl hx)
      · exact .inr (.inr (h1 x hx))
    refine ⟨⟨k.p, 4, kidsL (ks.take 4), fun x => nodeF k.p rv sv' x ∨ kidsF (ks.take 4) x⟩, ⟨q, 5, kidsL (ks.drop 4), fun x => nodeF q (.slice none 0 0) svq x ∨ kidsF (ks.drop 4) x⟩, rfl, rfl,
      ⟨rv, sv', ks.take 4, ?_, ?_, rfl, rfl, fun c hcm => hkid c (List.mem_of_mem_take hcm), hap2.1, fun x hx hy => hno x (hn4 x hx) (kidsF_take hy)⟩,
      ⟨.slice none 0 0, svq, ks.drop 4, ?_, ?_, rfl, rfl, fun c hcm => hkid c (List.mem_of_mem_drop hcm), hap2.2.1, fun x hx hy => ?_⟩, ?_, rfl, rfl, fun x hx => ?_, fun x hx => ?_, fun x hx hy => ?_, hf.weak fun x _ e => ?_⟩
    · have e : (ks.map (fun c => c.L.length)).take 4 = (ks.take 4).map (fun c => c.L.length) := by rw [List.map_take]
      rw [e, sumN_kids] at hA
      have e2 : (kidsP ks).take 4 = kidsP (ks.take 4) := by simp [kidsP, List.map_take]
      rw [e2] at hA
      exact hA
    · show 4 = (ks.take 4).length
      rw [List.length_take]; omega
    · have e : (ks.map (fun c => c.L.length)).drop 4 = (ks.drop 4).map (fun c => c.L.length) := by rw [List.map_drop]
      rw [e, sumN_kids] at hQ
      have e2 : (kidsP ks).drop 4 = kidsP (ks.drop 4) := by simp [kidsP, List.map_drop]
      rw [e2] at hQ
      exact hQ
    · show 5 = (ks.drop 4).length
      rw [List.length_drop]; omega
    · have := h2 x hx
      have := hklt x (kidsF_drop hy)
      omega
    · show kidsL (ks.take 4) ++ kidsL (ks.drop 4) = k.L
      rw [← kidsL_append, List.take_append_drop, hkL]
    · rw [hF]
      rcases hx with hx | hx
      · exact .inl (hn4 x hx)
      · exact .inr (kidsF_take hx)
    · rcases hx with hx | hx
      · exact .inr (h2 x hx)
      · left; rw [hF]; exact .inr (kidsF_drop hx)
    · rcases hx with hx | hx
      · rcases hy with hy | hy
        · have := h2 x hy
          have := (hn.lt x (hn4 x hx)).1
          omega
        · exact hno x (hn4 x hx) (kidsF_drop hy)
      · rcases hy with hy | hy
        · have := h2 x hy
          have := hklt x (kidsF_take hx)
          omega
        · exact hap2.2.2 x hx hy
    · rw [e, hF]; exact .inl (.inl rfl)
end Go.Proofs.Ytdgapagpmdfndaa
