/- LAYER 15 (lexicon): the document's Load. -/
import Derived.Test.YtoflicfghonhcaaLexLa
namespace Go.Proofs.Ytoflicfghonhcaa
open Go.RowKit Go.WideMaps Go.Maps
set_option linter.unusedVariables false
theorem TextsAt.mono {M M' : Nat} {w : World} {v : Value} {xs : List ByteArray} (h : TextsAt M w v xs) (hM : M ≤ M') : TextsAt M' w v xs := ⟨h.val, fun s hs => Nat.le_trans (h.small s hs) hM⟩
set_option maxRecDepth 100000 in
set_option maxHeartbeats 2000000 in
theorem rload_L {v : Value} {xs : List ByteArray} {w : World} (h : TextsAt 35184372088832 w v xs) (hK : xs.length ≤ 10000) :
    Calls Try.prog 27 #[v] w fun e w' => Below w.heap.size w w' ∧ ∃ v', e = .returned (.tuple #[v', .int .i64 (loadD xs 0 []).2]) ∧ ∀ l, (loadD xs 0 []).1 = some l → DocAt w' 0 v' l := by
  obtain ⟨k0, hk1, hk2, hk3, hk4⟩ := info_parts infoDW
  have HT := Lib.hid h
  obtain ⟨⟨a, c, rfl, _⟩, _⟩ := h
  obtain ⟨n, hn⟩ : ∃ n, n = xs.length := ⟨_, rfl⟩
  have HN := Lib.hid hn
  rw [← hn] at HT hK ⊢
  clear hn
  obtain ⟨R, hR⟩ : ∃ R, R = loadD xs 0 [] := ⟨_, rfl⟩
  rw [← hR]
  have HR0 : Hid (R = loadD (xs.drop 0) 0 []) := Lib.hid hR
  clear hR
  go_enter Try.func27, Try.ntmps27
  go_wp2_with fail
  go_loopw [4, 5] (fun o i wr => ∃ (k : Nat) (out : List DW), k ≤ n ∧ i = .int .i64 (k : Int) ∧ out.length ≤ k ∧ Hid (DocAt wr w.heap.size o out) ∧ Hid (R = loadD (xs.drop k) k out) ∧ Below w.heap.size w wr) (fun _ i _ => n - (intOf i).toNat)
  case atStart => exact ⟨0, [], Nat.zero_le _, rfl, Nat.le_refl _, Lib.hid (OwnS.nil _ _ _ _), HR0, Below.refl _ _⟩
  case round =>
    clear HR0
    obtain ⟨k, out, hk, rfl, hol, HO, HR, hb⟩ := hrel
    obtain ⟨va, vc, rfl⟩ := HO.out.len
    by_cases hlt : k < n
    · have hT := HT.out
      rw [HN.out] at hT
      obtain ⟨⟨a', c', hv, hcc⟩, hsmall⟩ := hT
      cases hv
      obtain ⟨b, off, rfl, hbb, hcc⟩ := hcc (by rw [← HN.out]; omega)
      have hk' : k < xs.length := by rw [← HN.out]; exact hlt
      have d0 := hcc k hk'
      have d0 := (hb.cell (by exact hbb)).trans d0
      have hsz := hsmall _ (getD_mem xs k hk')
      have hdr := drop_getD xs k hk'
      rw [hdr] at HR
      generalize xs.getD k default = s at *
      clear hdr hcc
      by_cases h4 : 4000 ≤ k
      · have HE := Lib.hid (HR.out.trans (loadD_full s _ k out h4))
        have h5 : (4000 : Int) ≤ (k : Int) := by omega
        go_wp2_with fail
        go_ret2
        refine ⟨hb, .slice none 0 0, by rw [HE.out]; rfl, fun l hl => ?_⟩
        rw [HE.out] at hl
        cases hl
      · have h5 : ¬ (4000 : Int) ≤ (k : Int) := by omega
        by_cases hs0 : s = ByteArray.empty
        · subst hs0
          have HE := Lib.hid (HR.out.trans (loadD_skip _ k out h4))
          go_wp2_with fail
          go_roundw
          case rel => exact ⟨k + 1, out, by omega, by go_num, by omega, HO, HE, hb⟩
          case measure => simp [intOf]; omega
        · have hs1 : (s.toList == []) = false := by
            have : s.toList ≠ [] := fun e => hs0 (by
              rw [Lib.toList_data] at e
              obtain ⟨⟨t⟩⟩ := s
              simp only at e
              subst e
              rfl)
            simpa using this
          have HNA := Lib.hid (fun w' => rname_any s hsz w')
          cases hnm : nameP s.data.toList with
          | false =>
            have HE := Lib.hid (HR.out.trans (loadD_bad s _ k out h4 hs0 (.inl hnm)))
            rw [hnm] at HNA
            clear hnm
            go_wp2_with fail
            refine (HNA.out _).mono ?_
            rintro e w2 ⟨rfl, hb2⟩
            go_wp2_with fail
            go_ret2
            refine ⟨hb.trans (hb2.mono hb.size), .slice none 0 0, by rw [HE.out]; rfl, fun l hl => ?_⟩
            rw [HE.out] at hl
            cases hl
          | true =>
            rw [hnm] at HNA
            have HBN := Lib.hid (fun w' (h' : DocAt w' w.heap.size (.slice va out.length vc) out) => byname_any w.heap.size _ out w' h' (by omega) s)
            change Hid (∀ w' (h' : DocAt w' w.heap.size (.slice va out.length vc) out), Calls _ _ _ _ fun e w2 => e = .returned (.int .i64 (placeD (nameAt s) out)) ∧ w2 = w') at HBN
            rcases placeD_spec (nameAt s) out with ⟨g1, _⟩ | ⟨j, _, g1, _⟩
            · have HE := Lib.hid (HR.out.trans (loadD_put s _ k out h4 hs0 hnm g1))
              rw [g1] at HBN
              have hoo := HO.out
              unfold DocAt at hoo
              clear hnm
              go_wp2_with fail
              refine (HNA.out _).mono ?_
              rintro e w2 ⟨rfl, hb2⟩
              have d1 := (hb2.cell (by exact block_lt_of_cell d0)).trans d0
              have hoo2 := OwnS.below hoo hb2
              have hb3 := hb.trans (hb2.mono hb.size)
              go_wp2_with fail
              refine (HBN.out _ hoo2).mono ?_
              rintro e w3 ⟨rfl, rfl⟩
              have hsz3 := hb3.size
              clear hoo hb2 d0
              go_wp2_with (at_builtin; refine wpList_append_ownS _ rfl _ _ 32 rfl w.heap.size 70 k0 (.agg #[.string ByteArray.empty, .int .i64 0, .int .i64 0]) 3 32 Try.underlying32 hk1 hk2 hk3 hk4 rfl (by decide) _ _ _ rfl (hoo2.alloc _) ⟨w3.heap.size, 0, none⟩ 1 1 [.string s, .int .i64 ((k : Int) + 1), .int .i64 1] rfl rfl ?e1 ?e2 ?e3 ?e4 ?e5 ?_)
              case e1 => intro jj u hu; first | exact hu | exact three_new _ _ _ _ _ jj u hu
              case e2 => first | exact ⟨rfl, rfl, rfl⟩ | (intro u hu; simp at hu; rcases hu with rfl | rfl | rfl <;> rfl)
              case e3 => unfold maxLen; omega
              case e4 => omega
              case e5 => first | omega | (simp; omega)
              intro v1 wa hown1 hgrow1
              have HO1 : Hid (DocAt wa w.heap.size v1 (out ++ [(s, k + 1, 1)])) := Lib.hid (docPush (z := 1) (by omega) hown1)
              have hb4 := below_grown (hb3.alloc hsz3 _) (hoo2.alloc _) hgrow1 (by simp; omega) (Nat.le_refl _)
              clear hown1 hgrow1 hoo2 HO
              go_wp2_with fail
              go_roundw
              case rel => exact ⟨k + 1, _, by omega, by go_num, by simp; omega, HO1, HE, hb4⟩
              case measure => simp [intOf]; omega
            · have HE := Lib.hid (HR.out.trans (loadD_bad s _ k out h4 hs0 (.inr (by omega))))
              rw [g1] at HBN
              clear hnm
              go_wp2_with fail
              refine (HNA.out _).mono ?_
              rintro e w2 ⟨rfl, hb2⟩
              have d1 := (hb2.cell (by exact block_lt_of_cell d0)).trans d0
              have hoo2 := Lib.hid (HO.out.below hb2)
              have hb3 := hb.trans (hb2.mono hb.size)
              go_wp2_with fail
              refine (HBN.out _ hoo2.out).mono ?_
              rintro e w3 ⟨rfl, rfl⟩
              go_wp2_with fail
              go_ret2
              refine ⟨hb3, .slice none 0 0, by rw [HE.out]; rfl, fun l hl => ?_⟩
              rw [HE.out] at hl
              cases hl
    · obtain rfl : k = n := by omega
      have e0 : xs.drop k = [] := List.drop_of_length_le (by rw [← HN.out]; exact Nat.le_refl _)
      rw [e0] at HR
      have HE : Hid (R = (some out, 0)) := HR
      go_wp2_with fail
      go_ret2
      refine ⟨hb, _, by rw [HE.out]; rfl, fun l hl => ?_⟩
      rw [HE.out] at hl
      cases hl
      exact OwnS.mono HO.out (Nat.zero_le _)
end Go.Proofs.Ytoflicfghonhcaa
