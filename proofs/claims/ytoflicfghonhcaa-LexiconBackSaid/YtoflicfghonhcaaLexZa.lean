/- LAYER 15 (lexicon): the walk of LexiconLeast. -/
import Derived.Test.YtoflicfghonhcaaLexZ
namespace Go.Proofs.Ytoflicfghonhcaa
open Go.RowKit Go.WideMaps Go.Maps
set_option linter.unusedVariables false
theorem addD_cases (N : Nat) (l : List DW) (s : ByteArray) :
    (∃ e, e ≠ 0 ∧ addD N l s = (l, 0, e)) ∨ (∃ x, x ∈ l ∧ x.1 = s ∧ addD N l s = (turnD l x.2.1 1, (x.2.1 : Int), 0)) ∨ ((findD l s).2 = false ∧ (∀ x ∈ l, x.1 ≠ s) ∧ nameP s.data.toList = true ∧ addD N l s = (l ++ [(s, N, 1)], (N : Int), 0)) := by
  cases hn : nameP s.data.toList with
  | false => exact .inl ⟨63, by decide, by unfold addD; rw [if_pos hn]⟩
  | true =>
    rcases placeD_spec (nameAt s) l with ⟨g1, g2⟩ | ⟨j, g1, g2, g3⟩
    · by_cases hf : 4000 ≤ l.length
      · exact .inl ⟨150, by decide, by unfold addD; rw [if_neg (by simp [hn]), if_neg (by omega), if_pos hf]⟩
      · refine .inr (.inr ⟨?_, fun x hx e => ?_, rfl, by unfold addD; rw [if_neg (by simp [hn]), if_neg (by omega), if_neg hf]⟩)
        · unfold findD; rw [g1, if_pos (by omega)]
        · obtain ⟨j, hj, e2⟩ := List.getElem_of_mem hx
          have := g2 j hj
          have e3 : l.getD j default = x := by rw [← e2]; simp [hj]
          rw [e3] at this
          simp [nameAt] at this
          exact this e
    · refine .inr (.inl ⟨l.getD j default, getD_mem l j g1, by simpa [nameAt] using g3, by unfold addD; rw [if_neg (by simp [hn]), if_pos (by omega), g2, Int.toNat_natCast]⟩)
theorem usesD_pos {l : List DW} (hq : Uniq l) (hp : ∀ x ∈ l, 0 < x.2.2) {N : Nat} (hN : IsLeast l N) (s : ByteArray) (hno : ∀ x ∈ l, x.1 ≠ s) (k : Nat) (h1 : 1 ≤ k) (h2 : k < N) : 0 < usesD (l ++ [(s, N, 1)]) (k : Int) := by
  obtain ⟨x, hx, e⟩ := hN.least k h1 h2
  have hq2 : Uniq (l ++ [(s, N, 1)]) := List.pairwise_append.2 ⟨hq, List.pairwise_singleton _ _, fun a ha b hb => by
    obtain rfl := List.mem_singleton.1 hb
    exact ⟨hN.free a ha, hno a ha⟩⟩
  have := usesD_in hq2 (List.mem_append_left _ hx)
  rw [e] at this
  rw [this]
  have := hp x hx
  omega
theorem usesD_last {l : List DW} (hq : Uniq l) {N : Nat} (hN : IsLeast l N) (s : ByteArray) (hno : ∀ x ∈ l, x.1 ≠ s) : usesD (l ++ [(s, N, 1)]) (N : Int) = 1 := by
  have hq2 : Uniq (l ++ [(s, N, 1)]) := List.pairwise_append.2 ⟨hq, List.pairwise_singleton _ _, fun a ha b hb => by
    obtain rfl := List.mem_singleton.1 hb
    exact ⟨hN.free a ha, hno a ha⟩⟩
  exact usesD_in hq2 (List.mem_append_right _ (List.mem_singleton.2 rfl))
set_option maxRecDepth 100000 in
set_option maxHeartbeats 1000000 in
theorem lexLeast_any (sv : Value) (os : List LOp) (s : ByteArray) (w : World) (hs : ScriptAt 35184372088832 w w.heap.size sv os) (hz : s.size ≤ maxLen) : Calls Try.prog 5 #[sv, .string s] w fun e w' => e = .returned (.bool true) ∧ Below w.heap.size w w' := by
  have HS := Lib.hid hs
  obtain ⟨⟨sa, sc, rfl, _⟩, _⟩ := hs
  obtain ⟨n, hn⟩ : ∃ n, n = os.length := ⟨_, rfl⟩
  have HN := Lib.hid hn
  rw [← hn] at HS ⊢
  clear hn
  by_cases h : n ≤ 300
  · have h2 : ¬ (300 : Int) < (n : Int) := by omega
    go_enter Try.func5, Try.ntmps5
    go_wp2_with fail
    refine (new_L w).mono ?_
    rintro e w1 ⟨p, rfl, H1, hb1⟩
    have H1 := Lib.hid H1
    have HS1 := Lib.hid (HS.out.below hb1)
    go_wp2_with fail
    refine (plays_L H1.out (docAt_nil w1) HS1.out (by rw [← HN.out]; omega)).mono ?_
    rintro e w2 ⟨lv, l', ws', rfl, H2, hd2, ht2⟩
    rw [← HN.out, Nat.zero_add] at H2
    have H2 := Lib.hid H2
    have hb2 := hb1.trans ht2.below
    clear hb1 ht2 HS1 H1 hd2
    obtain ⟨va, hva⟩ : ∃ va, va = lv := ⟨_, rfl⟩
    go_wp2_with fail
    refine (find_L H2.out s hz).mono ?_
    rintro e w3 ⟨rfl, rfl⟩
    have HA := Lib.hid (add_L H2.out (by omega) s hz)
    have HOK := Lib.hid H2.out.ok
    have HC := Lib.hid (addD_cases (freeW ws') l' s)
    have HFI := Lib.hid (fun x (hx : x ∈ l') => findD_in HOK.out.uniq hx)
    rcases HC.out with ⟨er, her, hadd⟩ | ⟨x, hx, hxs, hadd⟩ | ⟨hfn, hno, hgd, hadd⟩
    · rw [hadd] at HA
      have her2 : (er == 0) = false := by simpa using her
      generalize findD l' s = fd at *
      clear hadd HC
      go_wp2_with fail
      refine HA.out.mono ?_
      rintro e w4 ⟨rfl, _, ht4⟩
      have hb3 := hb2.trans ht4.below
      go_wp2_with fail
      refine (alive_any _).mono ?_
      rintro e w5 ⟨rfl, hb5⟩
      go_wp2_with fail
      go_ret
      exact ⟨rfl, hb3.trans (hb5.mono hb3.size)⟩
    · rw [hadd] at HA
      have hfd := HFI.out x hx
      rw [hxs] at hfd
      rw [hfd]
      clear hadd HC
      go_wp2_with fail
      refine HA.out.mono ?_
      rintro e w4 ⟨rfl, _, ht4⟩
      have hb3 := hb2.trans ht4.below
      go_wp2_with fail
      refine (alive_any _).mono ?_
      rintro e w5 ⟨rfl, hb5⟩
      go_wp2_with fail
      go_ret
      exact ⟨rfl, hb3.trans (hb5.mono hb3.size)⟩
    · rw [hadd] at HA
      have HUP := Lib.hid (usesD_pos HOK.out.uniq HOK.out.pos HOK.out.least s hno)
      have HUL := Lib.hid (usesD_last HOK.out.uniq HOK.out.least s hno)
      have hbd := HOK.out.bound
      have hps := HOK.out.least.pos
      clear hadd HC
      generalize findD l' s = fd at *
      obtain ⟨fd1, fd2⟩ := fd
      dsimp only at hfn
      subst hfn
      generalize l' ++ [(s, freeW ws', 1)] = l2 at *
      generalize freeW ws' = N at *
      go_wp2_with fail
      refine HA.out.mono ?_
      rintro e w4 ⟨rfl, ⟨ws4, H4⟩, ht4⟩
      have H4 := Lib.hid H4
      have hb3 := hb2.trans ht4.below
      clear ht4 hb2 HA H2
      go_wp2_with fail
      go_loopw [10] (fun i wr => ∃ k : Nat, 1 ≤ k ∧ k ≤ N ∧ i = .int .i64 (k : Int) ∧ Hid (BookL wr w.heap.size p (n + 1) ws4 l2) ∧ Below w.heap.size w wr) (fun i _ => N - (intOf i).toNat)
      case atStart => exact ⟨1, Nat.le_refl _, hps, rfl, H4, hb3⟩
      case round =>
        obtain ⟨k, hk1, hk2, rfl, HB, hb⟩ := hrel
        by_cases hlt : k < N
        · have hu := HUP.out k hk1 hlt
          have HU := Lib.hid (uses_L HB.out (by omega) (k : Int))
          generalize usesD l2 (k : Int) = u at *
          have hu2 : (u == 0) = false := by simp; omega
          go_wp2_with fail
          refine HU.out.mono ?_
          rintro e w5 ⟨rfl, hb5⟩
          have HB5 := Lib.hid (HB.out.below hb5)
          have hb6 := hb.trans (hb5.mono hb.size)
          clear hb5 HB HU hb
          go_wp2_with fail
          go_roundw
          case rel => exact ⟨k + 1, by omega, by omega, by go_num, HB5, hb6⟩
          case measure => simp [intOf]; omega
        · obtain rfl : k = N := by omega
          go_wp2_with fail
          refine (alive_any _).mono ?_
          rintro e w5 ⟨rfl, hb5⟩
          have HB5 := Lib.hid (HB.out.below hb5)
          have hb6 := hb.trans (hb5.mono hb.size)
          have HU := Lib.hid (uses_L HB5.out (by omega) (k : Int))
          rw [HUL.out] at HU
          clear hb5 HB hb
          go_wp2_with fail
          refine HU.out.mono ?_
          rintro e w6 ⟨rfl, hb7⟩
          go_wp2_with fail
          go_ret
          exact ⟨rfl, hb6.trans (hb7.mono hb6.size)⟩
  · have h2 : (300 : Int) < (n : Int) := by omega
    go_enter Try.func5, Try.ntmps5
    go_wp2_with fail
    refine (new_L w).mono ?_
    rintro e w1 ⟨p, rfl, H1, hb1⟩
    have H1 := Lib.hid H1
    go_wp2_with fail
    refine (alive_any _).mono ?_
    rintro e w2 ⟨rfl, hb2⟩
    go_wp2_with fail
    go_ret
    exact ⟨rfl, hb1.trans (hb2.mono hb1.size)⟩
end Go.Proofs.Ytoflicfghonhcaa
