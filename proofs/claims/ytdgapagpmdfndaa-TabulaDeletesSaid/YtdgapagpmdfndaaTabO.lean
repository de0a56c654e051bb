/- LAYER 13 (tabula): join, with all that lies below. -/
import Derived.Test.YtdgapagpmdfndaaTabN
namespace Go.Proofs.Ytdgapagpmdfndaa
open Go.RowKit
set_option linter.unusedVariables false
theorem kids_join {A D : List Kid} {a b a' : Kid} {sz : Nat} (hap : Apart (A ++ a :: b :: D)) (hlt : ∀ x, kidsF (A ++ a :: b :: D) x → x < sz) (hF : ∀ x, a'.F x → a.F x ∨ b.F x ∨ sz ≤ x) :
    Apart (A ++ a' :: D) ∧ (∀ x, kidsF (A ++ a' :: D) x → kidsF (A ++ a :: b :: D) x ∨ sz ≤ x) := by
  obtain ⟨h1, h2, h3⟩ := apart_split hap
  obtain ⟨h4, h5⟩ := List.pairwise_cons.1 h2
  obtain ⟨h6, h7⟩ := List.pairwise_cons.1 h5
  have hA : ∀ x, kidsF A x → x < sz := fun x hx => hlt x (kidsF_append.2 (.inl hx))
  have hD : ∀ x, kidsF D x → x < sz := fun x hx => hlt x (kidsF_append.2 (.inr (kidsF_cons.2 (.inr (kidsF_cons.2 (.inr hx))))))
  refine ⟨apart_join h1 (List.pairwise_cons.2 ⟨fun d hd x hx hy => ?_, h7⟩) fun x hx hy => ?_, fun x hx => ?_⟩
  · rcases hF x hx with h | h | h
    · exact h4 d (List.mem_cons_of_mem _ hd) x h hy
    · exact h6 d hd x h hy
    · have := hD x ⟨d, hd, hy⟩; omega
  · rcases kidsF_cons.1 hy with hy | hy
    · rcases hF x hy with h | h | h
      · exact h3 x hx (kidsF_cons.2 (.inl h))
      · exact h3 x hx (kidsF_cons.2 (.inr (kidsF_cons.2 (.inl h))))
      · have := hA x hx; omega
    · exact h3 x hx (kidsF_cons.2 (.inr (kidsF_cons.2 (.inr hy))))
  · rcases kidsF_append.1 hx with hx | hx
    · exact .inl (kidsF_append.2 (.inl hx))
    · rcases kidsF_cons.1 hx with hx | hx
      · rcases hF x hx with h | h | h
        · exact .inl (kidsF_append.2 (.inr (kidsF_cons.2 (.inl h))))
        · exact .inl (kidsF_append.2 (.inr (kidsF_cons.2 (.inr (kidsF_cons.2 (.inl h))))))
        · exact .inr h
      · exact .inl (kidsF_append.2 (.inr (kidsF_cons.2 (.inr (kidsF_cons.2 (.inr hx))))))
/-- Two trees made one by join, the rest of the memory as it was. -/
theorem join_two {w : World} {B h p : Nat} {rv sv : Value} {subs : List Nat} {m : Int} {a b : Kid} (k : Nat) (hB : B ≤ w.heap.size)
    (hn : NodeAt w B p rv sv [] subs m) (hk : k + 1 < subs.length) (hl : subs.length ≤ 1000) (ka : subs.getD k default = a.p) (kb : subs.getD (k + 1) default = b.p)
    (ta : TreeAt w B 1 h a) (tb : TreeAt w B 1 h b) (ea : a.e ≤ 8) (eb : b.e ≤ 8) (hLa : a.L.length ≤ 1000000) (hLb : b.L.length ≤ 1000000) (hab : ∀ x, a.F x → ¬ b.F x) (hna : ∀ x, nodeF p rv sv x → ¬ a.F x) (hnb : ∀ x, nodeF p rv sv x → ¬ b.F x) :
    Calls Try.prog 50 #[.pointer (some ⟨p, 0, none⟩), .int .i64 (k : Int)] w fun e w' => (∃ v, e = .returned v) ∧
      (Below w.heap.size w w' ∨ ∃ (a' : Kid) (sv' : Value), a'.p = a.p ∧ TreeAt w' B 1 h a' ∧ a'.e = a.e + b.e ∧ a'.e ≤ 4 ∧ a'.L = a.L ++ b.L ∧ (∀ x, a'.F x → a.F x ∨ b.F x ∨ w.heap.size ≤ x) ∧
        NodeAt w' B p rv sv' [] (subs.take (k + 1) ++ subs.drop (k + 2)) m ∧ (∀ x, sv'.ownBlock = some x → sv.ownBlock = some x) ∧ Frm (fun x => a.F x ∨ x = p ∨ sv.ownBlock = some x) w w') := by
  cases h with
  | zero =>
    obtain ⟨rva, sva, na, hea, hFa⟩ := ta
    obtain ⟨rvb, svb, nb, heb, hFb⟩ := tb
    by_cases h4 : 4 < a.L.length + b.L.length
    · exact (join_no k hn na nb hk hl ka kb (by omega) (by omega) (by simp) (by simp) (.inl h4)).mono fun e w' ⟨he, hw⟩ => ⟨he, .inl hw⟩
    · refine (join_yes k hB hn na nb hk hl ka kb (by omega) (by simp) (fun x hx => by rw [← hFa]; exact hna x hx) (fun x hx => by rw [← hFa] at hx; rw [← hFb]; exact hab x hx) [] rfl (fun i hi => by simp at hi) (by simp)).mono ?_
      rintro e w' ⟨he, rva', sva', sv', hA, hN, hf1, hf2, hf⟩
      refine ⟨he, .inr ⟨⟨a.p, (a.L ++ b.L).length, a.L ++ b.L, nodeF a.p rva' sva'⟩, sv', rfl, ⟨rva', sva', hA, rfl, rfl⟩, by show (a.L ++ b.L).length = _; rw [List.length_append]; omega, by show (a.L ++ b.L).length ≤ 4; rw [List.length_append]; omega, rfl, fun x hx => ?_, hN, hf2, hf.weak fun x _ hx => ?_⟩⟩
      · rw [hFa]
        exact (hf1 x hx).imp id .inr
      · rw [hFa]; exact hx
  | succ h =>
    obtain ⟨rva, sva, ksa, na, hea, hLa', hFa, hca, hapa, hnoa⟩ := ta
    obtain ⟨rvb, svb, ksb, nb, heb, hLb', hFb, hcb, hapb, hnob⟩ := tb
    by_cases h4 : 4 < ksa.length + ksb.length
    · exact (join_no k hn na nb hk hl ka kb (by simp) (by simp) (by rw [kidsP_len]; omega) (by rw [kidsP_len]; omega) (.inr (by rw [kidsP_len, kidsP_len]; exact h4))).mono fun e w' ⟨he, hw⟩ => ⟨he, .inl hw⟩
    · have hall : ∀ c ∈ ksa ++ ksb, TreeAt w B 1 h c ∧ 1 ≤ c.e ∧ c.e ≤ 8 := fun c hc => by
        rcases List.mem_append.1 hc with hc | hc
        · exact hca c hc
        · exact hcb c hc
      have hin : ∀ c ∈ ksa ++ ksb, ∀ x, c.F x → (kidsF ksa x ∨ kidsF ksb x) := fun c hc x hx => by
        rcases List.mem_append.1 hc with hc | hc
        · exact .inl ⟨c, hc, hx⟩
        · exact .inr ⟨c, hc, hx⟩
      have hdis : ∀ c ∈ ksa ++ ksb, ∀ x, c.F x → ¬ nodeF a.p rva sva x ∧ ¬ nodeF p rv sv x := fun c hc x hx => by
        rcases hin c hc x hx with h1 | h1
        · exact ⟨fun h2 => hnoa x h2 h1, fun h2 => hna x h2 (by rw [hFa]; exact .inr h1)⟩
        · exact ⟨fun h2 => hab x (by rw [hFa]; exact .inl h2) (by rw [hFb]; exact .inr h1), fun h2 => hnb x h2 (by rw [hFb]; exact .inr h1)⟩
      have hPP : kidsP ksa ++ kidsP ksb = kidsP (ksa ++ ksb) := (kidsP_append _ _).symm
      refine (join_yes k hB hn na nb hk hl ka kb (by simp) (by rw [kidsP_len, kidsP_len]; omega) (fun x hx h2 => hna x hx (by rw [hFa]; exact .inl h2)) (fun x hx h2 => hab x (by rw [hFa]; exact .inl hx) (by rw [hFb]; exact .inl h2)) ((ksa ++ ksb).map (fun c => c.L.length)) (by rw [hPP, kidsP_len, List.length_map]) (fun i hi => by
          rw [hPP] at hi ⊢
          have hi2 := hi
          rw [kidsP_len] at hi2
          have hcm := getD_mem (ksa ++ ksb) i hi2
          have h1 := (kids_cells (p := w.heap.size) (fun c hc => (hall c hc).1) (fun ⟨c, hc, hx⟩ => by have := ((hall c hc).1.lt _ hx).1; omega) i hi).1
          refine ⟨h1, ?_⟩
          rw [kidsP_at _ _ hi2]
          exact (hdis _ hcm _ (hall _ hcm).1.own).1) (fun x hx => by
          obtain ⟨c, hc, rfl⟩ := List.mem_map.1 hx
          rcases List.mem_append.1 hc with hc | hc
          · have := kids_bound (N := 1000000) (by rw [← hLa']; exact hLa) _ (List.mem_map.2 ⟨c, hc, rfl⟩); omega
          · have := kids_bound (N := 1000000) (by rw [← hLb']; exact hLb) _ (List.mem_map.2 ⟨c, hc, rfl⟩); omega)).mono ?_
      rintro e w' ⟨he, rva', sva', sv', hA, hN, hf1, hf2, hf⟩
      rw [hPP, sumN_kids] at hA
      have hkl : kidsL (ksa ++ ksb) = a.L ++ b.L := by rw [kidsL_append, hLa', hLb']
      have hF' : ∀ x, nodeF a.p rva' sva' x ∨ kidsF (ksa ++ ksb) x → a.F x ∨ b.F x ∨ w.heap.size ≤ x := fun x hx => by
        rcases hx with hx | hx
        · rcases hf1 x hx with h1 | h1
          · exact .inl (by rw [hFa]; exact .inl h1)
          · exact .inr (.inr h1)
        · rcases kidsF_append.1 hx with h1 | h1
          · exact .inl (by rw [hFa]; exact .inr h1)
          · exact .inr (.inl (by rw [hFb]; exact .inr h1))
      have htree : TreeAt w' B 1 (h + 1) ⟨a.p, (ksa ++ ksb).length, a.L ++ b.L, fun x => nodeF a.p rva' sva' x ∨ kidsF (ksa ++ ksb) x⟩ := by
        refine ⟨rva', sva', ksa ++ ksb, ?_, rfl, hkl.symm, rfl, fun c hc => ⟨(hall c hc).1.frm hf fun x hx h2 => ?_, (hall c hc).2⟩, apart_join hapa hapb fun x hx hy => hab x (by rw [hFa]; exact .inr hx) (by rw [hFb]; exact .inr hy), fun x hx ⟨c, hc, hy⟩ => ?_⟩
        · rw [hkl] at hA
          simpa using hA
        · rcases h2 with h2 | h2 | h2
          · exact (hdis c hc x hx).1 h2
          · exact (hdis c hc x hx).2 (.inl h2)
          · exact (hdis c hc x hx).2 (.inr (.inr h2))
        · rcases hf1 x hx with h1 | h1
          · exact (hdis c hc x hy).1 h1
          · have := ((hall c hc).1.lt x hy).1; omega
      refine ⟨he, .inr ⟨⟨a.p, (ksa ++ ksb).length, a.L ++ b.L, fun x => nodeF a.p rva' sva' x ∨ kidsF (ksa ++ ksb) x⟩, sv', rfl, htree, by show (ksa ++ ksb).length = _; rw [List.length_append]; omega, by show (ksa ++ ksb).length ≤ 4; rw [List.length_append]; omega, rfl, hF', hN, hf2, hf.weak fun x _ hx => ?_⟩⟩
      rcases hx with hx | hx
      · exact .inl (by rw [hFa]; exact .inl hx)
      · exact .inr hx
end Go.Proofs.Ytdgapagpmdfndaa
