/- LAYER 15 (lexicon): Load. -/
import Derived.Test.YtoflicfghonhcaaLexY
import Derived.StillTailTactics
import Derived.BigRegion
namespace Go.Proofs.Ytoflicfghonhcaa
open Go.RowKit Go.WideMaps Go.Maps
set_option linter.unusedVariables false
theorem Rel.newAt {K : Nat} {ws ws' : WS} {f : ByteArray → Option Nat} {l : List DW} (h : Rel K ws f l) (s : ByteArray) (i : Nat) (hn : nameP s.data.toList = true) (hf : f s = none) (hfr : (ws.getD i default).2 = 0)
    (hget : ∀ j, ws'.getD j default = if j = i then (s, 1) else ws.getD j default) (hlast : popT ws' = ws') (hlen : ws'.length ≤ K + 1) :
    Rel (K + 1) ws' (updN f s (some (i + 1))) (l ++ [(s, i + 1, 1)]) := by
  have h2 : ∀ x ∈ l, x.2.1 ≠ i + 1 := fun x hx e => by
    have hx' := (h.mem x).1 hx
    rw [show x.2.1 - 1 = i by omega] at hx'
    have := congrArg Prod.snd hx'.2.1
    dsimp only at this
    omega
  have hno : ∀ x ∈ l, x.1 ≠ s := fun x hx e => by
    subst e
    have := (h.num x.1 x.2.1).2 ⟨x.2.2, hx⟩
    rw [hf] at this
    cases this
  refine ⟨fun x => ?_, fun j => ?_, ?_, hlast, fun s' k' => ?_, fun x hx => ?_, hlen, ?_, fun x hx => ?_⟩
  · rw [List.mem_append, List.mem_singleton, hget]
    constructor
    · rintro (hx | rfl)
      · have hx' := (h.mem x).1 hx
        rw [if_neg (by have := h2 x hx; omega)]
        exact hx'
      · exact ⟨by simp, by simp, by simp⟩
    · rintro ⟨e1, e2, e3⟩
      by_cases hk : x.2.1 - 1 = i
      · rw [if_pos hk] at e2
        right
        obtain ⟨a, b, c⟩ := x
        simp only at hk e1 e2
        cases e2
        obtain rfl : b = i + 1 := by omega
        rfl
      · rw [if_neg hk] at e2
        exact .inl ((h.mem x).2 ⟨e1, e2, e3⟩)
  · rw [hget]
    split
    · intro e; simp at e
    · exact h.hole j
  · refine List.pairwise_append.2 ⟨h.uniq, List.pairwise_singleton _ _, fun a ha b hb => ?_⟩
    obtain rfl := List.mem_singleton.1 hb
    exact ⟨h2 a ha, hno a ha⟩
  · by_cases hs : s' = s
    · subst hs
      rw [updN_same]
      constructor
      · intro e
        cases e
        exact ⟨1, by simp⟩
      · rintro ⟨v, hv⟩
        rcases List.mem_append.1 hv with hv | hv
        · exact absurd rfl (hno _ hv)
        · simp at hv
          rw [hv.1]
    · rw [updN_other _ _ _ _ hs, h.num]
      constructor
      · rintro ⟨v, hv⟩; exact ⟨v, List.mem_append_left _ hv⟩
      · rintro ⟨v, hv⟩
        rcases List.mem_append.1 hv with hv | hv
        · exact ⟨v, hv⟩
        · simp at hv
          exact absurd hv.1 hs
  · rcases List.mem_append.1 hx with hx | hx
    · exact h.good x hx
    · obtain rfl := List.mem_singleton.1 hx; exact hn
  · rw [List.length_append]; have := h.size; simp; omega
  · rcases List.mem_append.1 hx with hx | hx
    · have := h.uses x hx; omega
    · obtain rfl := List.mem_singleton.1 hx; dsimp only; omega
/-- Texts in memory; none longer than M. -/
structure TextsAt (M : Nat) (w : World) (v : Value) (xs : List ByteArray) : Prop where
  val : ∃ a cap, v = .slice a xs.length cap ∧ (0 < xs.length → ∃ b off, a = some ⟨b, off, none⟩ ∧ b < w.heap.size ∧ ∀ i, i < xs.length → w.cell? ⟨b, off + i, none⟩ = some (.string (xs.getD i default)))
  small : ∀ s ∈ xs, s.size ≤ M
theorem TextsAt.below {M : Nat} {w w' : World} {v : Value} {xs : List ByteArray} (h : TextsAt M w v xs) (hb : Below w.heap.size w w') : TextsAt M w' v xs := by
  obtain ⟨⟨a, cap, h1, h2⟩, h3⟩ := h
  refine ⟨⟨a, cap, h1, fun h0 => ?_⟩, h3⟩
  obtain ⟨b, off, e, hlt, hc⟩ := h2 h0
  exact ⟨b, off, e, Nat.lt_of_lt_of_le hlt hb.size, fun i hi => (hb.cell (by exact hlt)).trans (hc i hi)⟩
theorem TextsAt.of {M B : Nat} {w : World} {v : Value} {xs : List ByteArray} (h : StrsAt w B v xs) (hs : ∀ s ∈ xs, s.size ≤ M) : TextsAt M w v xs := by
  obtain ⟨a, cap, rfl⟩ := OwnS.len h
  refine ⟨⟨a, cap, rfl, fun h0 => ?_⟩, hs⟩
  obtain ⟨g, cap', e, _, hg, _⟩ := OwnS.shape h h0
  cases e
  refine ⟨g, 0, rfl, hg, fun i hi => ?_⟩
  rw [Nat.zero_add]
  exact h.cells i hi
noncomputable def loadD : List ByteArray → Nat → List DW → Option (List DW) × Int
  | [], _, out => (some out, 0)
  | s :: r, i, out => if 4000 ≤ i then (none, 150) else if s = ByteArray.empty then loadD r (i + 1) out else if nameP s.data.toList = false ∨ 0 ≤ placeD (nameAt s) out then (none, 63) else loadD r (i + 1) (out ++ [(s, i + 1, 1)])
theorem loadD_full (s : ByteArray) (r : List ByteArray) (i : Nat) (out : List DW) (h : 4000 ≤ i) : loadD (s :: r) i out = (none, 150) := by rw [loadD, if_pos h]
theorem loadD_skip (r : List ByteArray) (i : Nat) (out : List DW) (h : ¬ 4000 ≤ i) : loadD (ByteArray.empty :: r) i out = loadD r (i + 1) out := by rw [loadD, if_neg h, if_pos rfl]
theorem loadD_bad (s : ByteArray) (r : List ByteArray) (i : Nat) (out : List DW) (h : ¬ 4000 ≤ i) (h0 : s ≠ ByteArray.empty) (hb : nameP s.data.toList = false ∨ 0 ≤ placeD (nameAt s) out) : loadD (s :: r) i out = (none, 63) := by rw [loadD, if_neg h, if_neg h0, if_pos hb]
theorem loadD_put (s : ByteArray) (r : List ByteArray) (i : Nat) (out : List DW) (h : ¬ 4000 ≤ i) (h0 : s ≠ ByteArray.empty) (hn : nameP s.data.toList = true) (hp : placeD (nameAt s) out = -1) : loadD (s :: r) i out = loadD r (i + 1) (out ++ [(s, i + 1, 1)]) := by
  rw [loadD, if_neg h, if_neg h0, if_neg]
  rintro (e | e)
  · rw [hn] at e; cases e
  · omega
theorem name_empty : nameP ByteArray.empty.data.toList = false := by
  have : ByteArray.empty.data.toList = [] := rfl
  rw [this]
  unfold nameP
  simp
/-- A shorter row of words laid into the book, its capacity kept. -/
theorem BookAt.cutK {w : World} {B p g cap : Nat} {mb n : Nat} {ws : List (ByteArray × Nat)} {f : ByteArray → Option Nat} {cnt : Nat} (h : BookAt w B p (.slice (some ⟨g, 0, none⟩) ws.length cap) mb n ws f cnt) (j : Nat) (hj : j ≤ ws.length) (hc : j ≤ cap) :
    BookAt (w.setCell ⟨p, 0, none⟩ (.slice (some ⟨g, 0, none⟩) j cap)) B p (.slice (some ⟨g, 0, none⟩) j cap) mb n (ws.take j) f cnt := by
  have hown := h.own.cut j cap hj hc (Nat.le_refl _)
  have hg : w.grownBy w (Value.slice (some ⟨g, 0, none⟩) ws.length cap).ownBlock := World.grownBy.refl _ _
  refine h.pushW hg ?_
  rw [List.length_take, Nat.min_eq_left hj]
  have e : (wordCells ws).take (j * 2) = wordCells (ws.take j) := by
    rw [show ws = ws.take j ++ ws.drop j by simp, wordCells_append, List.take_append_of_le_length (by rw [wordCells_len, List.length_take]; omega)]
    rw [List.take_of_length_le (by rw [wordCells_len, List.length_take]; omega)]
    simp
  rw [← e]
  exact hown
/-- A book while it is loaded: its words may end in some that are none. -/
def LoadAt (w : World) (B p k : Nat) (ws : WS) (out : List DW) : Prop := ∃ vw mb n f, BookAt w B p vw mb n ws f out.length ∧ Rel k (popT ws) f out ∧ n ≤ k ∧ (∀ x ∈ out, x.1.size ≤ maxLen) ∧ (∀ i, (ws.getD i default).2 = 0 → ws.getD i default = default) ∧ ws.length = k
set_option maxRecDepth 100000 in
set_option maxHeartbeats 2000000 in
theorem load_L {v : Value} {xs : List ByteArray} {w : World} (h : TextsAt maxLen w v xs) (hK : xs.length ≤ 10000) :
    Calls Try.prog 25 #[v] w fun e w' => Below w.heap.size w w' ∧ (((loadD xs 0 []).1 = none ∧ e = .returned (.tuple #[.pointer none, .int .i64 (loadD xs 0 []).2])) ∨ ∃ p ws l, (loadD xs 0 []).1 = some l ∧ e = .returned (.tuple #[.pointer (some ⟨p, 0, none⟩), .int .i64 (loadD xs 0 []).2]) ∧ BookL w' w.heap.size p xs.length ws l) := by
  obtain ⟨k0, hk1, hk2, hk3, hk4⟩ := info_parts infoWord
  have HT := Lib.hid h
  obtain ⟨⟨a, c, rfl, _⟩, _⟩ := h
  obtain ⟨n, hn⟩ : ∃ n, n = xs.length := ⟨_, rfl⟩
  have HN := Lib.hid hn
  rw [← hn] at HT hK ⊢
  clear hn
  obtain ⟨R, hR⟩ : ∃ R, R = loadD xs 0 [] := ⟨_, rfl⟩
  rw [← hR]
  have HR0 : Hid (R = loadD (xs.drop 0) 0 []) := Lib.hid hR
  clear hR
  go_enter Try.func25, Try.ntmps25
  go_wp2_with fail
  refine (new_any w).mono ?_
  rintro e w1 ⟨p, mb, rfl, h1, hb1⟩
  have HL0 : Hid (LoadAt w1 w.heap.size p 0 [] []) := Lib.hid ⟨_, mb, 0, _, h1, Rel.nil 0, Nat.le_refl _, fun x hx => (by cases hx), fun i _ => rfl, rfl⟩
  clear h1
  go_wp2_with fail
  go_loopw [12] (fun i wr => ∃ (k : Nat) (ws : WS) (out : List DW), k ≤ n ∧ i = .int .i64 (k : Int) ∧ Hid (LoadAt wr w.heap.size p k ws out) ∧ Hid (R = loadD (xs.drop k) k out) ∧ Hid (Below w.heap.size w wr)) (fun i _ => n - (intOf i).toNat)
  case atStart => exact ⟨0, [], [], Nat.zero_le _, rfl, HL0, HR0, Lib.hid hb1⟩
  case round =>
    clear HL0 HR0 hb1
    obtain ⟨k, ws, out, hk, rfl, HL, HR, Hb⟩ := hrel
    obtain ⟨vw, mb, m, f, hB, hRel, hm, hsm, hhole, hwl⟩ := HL.out
    have hB0 : w.heap.size ≤ wr.heap.size := Hb.out.size
    by_cases hlt : k < n
    · have hT := HT.out
      rw [HN.out] at hT
      obtain ⟨⟨a', c', hv, hcc⟩, hsmall⟩ := hT
      cases hv
      obtain ⟨b, off, rfl, hbb, hcc⟩ := hcc (by rw [← HN.out]; omega)
      have hk' : k < xs.length := by rw [← HN.out]; exact hlt
      have d0 := hcc k hk'
      have d0 := (Hb.out.cell (by exact hbb)).trans d0
      have hsz := hsmall _ (getD_mem xs k hk')
      have hdr := drop_getD xs k hk'
      rw [hdr] at HR
      generalize xs.getD k default = s at *
      have ho := hB.own
      rw [hwl] at ho
      obtain ⟨va, vc, rfl⟩ := ho.len
      obtain ⟨c0, c1⟩ := hB.cell0
      have hl := hB.nums.look s hsz
      clear hdr hcc
      have HBK := Lib.hid hB
      have HRL := Lib.hid hRel
      have HHO := Lib.hid hhole
      have HSM := Lib.hid hsm
      by_cases h4 : 4000 ≤ k
      · have e := HR.out.trans (loadD_full s _ k out h4)
        have HE := Lib.hid e
        clear e hB hRel
        generalize f s = r at *
        have h5 : (4000 : Int) ≤ (k : Int) := by omega
        go_wp2_with fail
        go_ret2
        refine ⟨Hb.out, .inl ?_⟩
        rw [HE.out]
        exact ⟨rfl, rfl⟩
      · have h5 : ¬ (4000 : Int) ≤ (k : Int) := by omega
        by_cases hs0 : s = ByteArray.empty
        · subst hs0
          have e := HR.out.trans (loadD_skip _ k out h4)
          have HE := Lib.hid e
          clear e hB hRel
          generalize f ByteArray.empty = r at *
          go_wp2_with (at_builtin; refine wpList_append_ownS _ rfl _ _ 60 rfl w.heap.size 65 k0 (.agg #[.string ByteArray.empty, .int .i64 0]) 2 24 Try.underlying60 hk1 hk2 hk3 hk4 rfl (by decide) _ _ _ rfl (ho.alloc _) ⟨wr.heap.size, 0, none⟩ 1 1 [.string ByteArray.empty, .int .i64 0] rfl rfl ?c1 ?c2 ?c3 ?c4 ?c5 ?_)
          case c1 => intro jj u hu; first | exact hu | exact two_new _ _ _ _ jj u hu
          case c2 => first | exact ⟨rfl, rfl⟩ | (intro u hu; simp at hu; rcases hu with rfl | rfl <;> rfl)
          case c3 => unfold maxLen; omega
          case c4 => omega
          case c5 => first | omega | (simp; omega)
          intro v1 wa hown1 hgrow1
          obtain ⟨g, cap, rfl, hBg, hg, hcap, _⟩ := hown1.shape (by omega)
          have hown2 : OwnS wa w.heap.size 65 2 (.slice (some ⟨g, 0, none⟩) (k + 1) cap) (ws ++ [(ByteArray.empty, 0)]).length (wordCells (ws ++ [(ByteArray.empty, 0)])) := by
            rw [wordCells_append, List.length_append, hwl]
            exact hown1
          have HA2 := HBK.out.below ((Below.refl _ _).alloc (Nat.le_refl _) (.cells #[.string ByteArray.empty, .int .i64 0] 65))
          have hgr := HA2.grown hgrow1
          have HP := Lib.hid (HA2.pushW hgrow1 hown2)
          have hba := Lib.hid ((Turns.grownBy (Turns.of ((Below.refl _ _).alloc (Nat.le_refl _) _) hB0) HA2 hgrow1).setCell (a := ⟨p, 0, none⟩) (by exact HA2.bp) hgr.1 (.inl rfl) (.slice (some ⟨g, 0, none⟩) (k + 1) cap))
          have p0 : wa.cell? ⟨p, 0, none⟩ = some (.slice va k vc) := by rw [cell_of_row wa p 0 _ _ _ hgr.1]; rfl
          have p1 := free_row hgr.1 0
          clear hown1 hown2 HA2 hgr hgrow1 ho c0 c1 d0 hl
          go_wp2_with fail
          go_roundw
          case rel => exact ⟨k + 1, ws ++ [(ByteArray.empty, 0)], out, by omega, by go_num, Lib.hid ⟨_, mb, m, f, HP.out, by rw [popT_yes _ _ rfl]; exact HRL.out.mono (by omega), by omega, HSM.out, fun i => by
              rw [getD_append_one]
              split
              · intro _; rfl
              · exact HHO.out i, by simp [hwl]⟩, HE, Lib.hid (Hb.out.trans hba.out.below)⟩
          case measure => simp [intOf]; omega
        · have hs1 : (s.toList == []) = false := by
            have : s.toList ≠ [] := fun e => hs0 (by
              rw [Lib.toList_data] at e
              obtain ⟨⟨t⟩⟩ := s
              simp only at e
              subst e
              rfl)
            simpa using this
          cases hnm : nameP s.data.toList with
          | false =>
            have HE := Lib.hid (HR.out.trans (loadD_bad s _ k out h4 hs0 (.inl hnm)))
            have HNA := Lib.hid (fun w' => name_any s hsz w')
            rw [hnm] at HNA
            clear hB hRel
            generalize f s = r at *
            clear hnm
            go_wp2_with fail
            refine (HNA.out _).mono ?_
            rintro e w2 ⟨rfl, hb2⟩
            go_wp2_with fail
            go_ret2
            refine ⟨Hb.out.trans (hb2.mono Hb.out.size), .inl ?_⟩
            rw [HE.out]
            exact ⟨rfl, rfl⟩
          | true =>
            have HNA := Lib.hid (fun w' => name_any s hsz w')
            rw [hnm] at HNA
            rcases place_name hRel s with ⟨g1, g2⟩ | ⟨j, q, u, g1, g2, g3, g4, g5⟩
            · have HE := Lib.hid (HR.out.trans (loadD_put s _ k out h4 hs0 hnm g1))
              have HF := Lib.hid g2
              have HNM := Lib.hid hnm
              rw [g2] at hl
              simp only [Option.getD_none, Option.isSome_none] at hl
              clear hB hRel hnm g2
              go_wp2_with fail
              refine (HNA.out _).mono ?_
              rintro e w2 ⟨rfl, hb2⟩
              have hoW := ho.below hb2
              have HBW := Lib.hid (HBK.out.below hb2)
              have c0W := (hb2.cell (by exact block_lt_of_cell c0)).trans c0
              have hBw2 : w.heap.size ≤ w2.heap.size := Nat.le_trans hB0 hb2.size
              clear ho c0 c1 d0 hl
              go_wp2_with (at_builtin; refine wpList_append_ownS _ rfl _ _ 60 rfl w.heap.size 65 k0 (.agg #[.string ByteArray.empty, .int .i64 0]) 2 24 Try.underlying60 hk1 hk2 hk3 hk4 rfl (by decide) _ _ _ rfl (hoW.alloc _) ⟨w2.heap.size, 0, none⟩ 1 1 [.string s, .int .i64 1] rfl rfl ?e1 ?e2 ?e3 ?e4 ?e5 ?_)
              case e1 => intro jj u hu; first | exact hu | exact two_new _ _ _ _ jj u hu
              case e2 => first | exact ⟨rfl, rfl⟩ | (intro u hu; simp at hu; rcases hu with rfl | rfl <;> rfl)
              case e3 => unfold maxLen; omega
              case e4 => omega
              case e5 => first | omega | (simp; omega)
              intro v1 wa hown1 hgrow1
              obtain ⟨g, cap, rfl, hBg, hg, hcap, _⟩ := hown1.shape (by omega)
              have hown2 : OwnS wa w.heap.size 65 2 (.slice (some ⟨g, 0, none⟩) (k + 1) cap) (ws ++ [(s, 1)]).length (wordCells (ws ++ [(s, 1)])) := by
                rw [wordCells_append, List.length_append, hwl]
                exact hown1
              have HA2 := HBW.out.below ((Below.refl _ _).alloc (Nat.le_refl _) (.cells #[.string s, .int .i64 1] 65))
              have hgr := HA2.grown hgrow1
              have HP := Lib.hid (HA2.pushW hgrow1 hown2)
              have hba := Lib.hid ((Turns.grownBy (Turns.of ((Below.refl _ _).alloc (Nat.le_refl _) _) hBw2) HA2 hgrow1).setCell (a := ⟨p, 0, none⟩) (by exact HA2.bp) hgr.1 (.inl rfl) (.slice (some ⟨g, 0, none⟩) (k + 1) cap))
              have p0 : wa.cell? ⟨p, 0, none⟩ = some (.slice va k vc) := by rw [cell_of_row wa p 0 _ _ _ hgr.1]; rfl
              have p1 := free_row hgr.1 0
              clear hown1 hown2 HA2 hgr hgrow1 hoW c0W
              go_upto_region 13 with fail
              generalize World.setCell wa _ _ = w3 at *
              clear p0 p1
              obtain ⟨_, c1⟩ := HP.out.cell0
              obtain ⟨w4, hrun, hnums, ht⟩ := HP.out.nums.put (by unfold maxLen; omega) s hsz (k + 1) (by omega)
              rw [HF.out] at hnums
              have HTn := Lib.hid (HP.out.turned ht hnums)
              clear hnums ht
              rw [show ((k + 1 : Nat) : Int) = (k : Int) + 1 by omega] at hrun
              go_wp2_with fail
              go_roundw
              case rel =>
                refine ⟨k + 1, ws ++ [(s, 1)], out ++ [(s, k + 1, 1)], by omega, by go_num, Lib.hid ⟨_, mb, m + 1, _, by simpa using HTn.out.1, ?_, by omega, ?_, fun i => ?_, by simp [hwl]⟩, HE, Lib.hid (Hb.out.trans (((Turns.of hb2 hB0).trans (hba.out.trans HTn.out.2)).below))⟩
                · rw [popT_no _ _ (by simp)]
                  refine HRL.out.newAt s k HNM.out HF.out ?_ (fun j => ?_) (popT_no _ _ (by simp)) (by simp [hwl])
                  · rw [popT_getD _ HHO.out, getD_out _ _ (by omega)]; rfl
                  · rw [popT_getD _ HHO.out, getD_append_one, hwl]
                · intro x hx
                  rcases List.mem_append.1 hx with hx | hx
                  · exact HSM.out x hx
                  · obtain rfl := List.mem_singleton.1 hx; exact hsz
                · rw [getD_append_one]
                  split
                  · intro e; simp at e
                  · exact HHO.out i
              case measure => simp [intOf]; omega
            · have HE := Lib.hid (HR.out.trans (loadD_bad s _ k out h4 hs0 (.inr (by omega))))
              rw [g5] at hl
              simp only [Option.getD_some, Option.isSome_some] at hl
              clear hB hRel hnm
              go_wp2_with fail
              refine (HNA.out _).mono ?_
              rintro e w2 ⟨rfl, hb2⟩
              go_wp2_with fail
              go_ret2
              refine ⟨Hb.out.trans (hb2.mono Hb.out.size), .inl ?_⟩
              rw [HE.out]
              exact ⟨rfl, rfl⟩
    · obtain rfl : k = n := by omega
      have e0 : xs.drop k = [] := List.drop_of_length_le (by rw [← HN.out]; exact Nat.le_refl _)
      rw [e0] at HR
      have HE : Hid (R = (some out, 0)) := HR
      clear HR e0 HT
      have HBK := Lib.hid hB
      have HRL := Lib.hid hRel
      have HSM := Lib.hid hsm
      have ho := hB.own
      obtain ⟨va, vc, rfl⟩ := ho.len
      have hcv : ws.length ≤ vc := by
        rcases ho.2 with ⟨e, e2⟩ | ⟨_, _, _, e, _, _, e2, _⟩
        · simp only [Value.slice.injEq] at e; omega
        · cases e; exact e2
      have hw0 : Hid (Turns w.heap.size wr wr) := Lib.hid (Turns.refl _ _)
      obtain ⟨wo, hwo⟩ : ∃ wo : World, wo = wr := ⟨_, rfl⟩
      have HWO := Lib.hid hwo
      rw [← hwo] at Hb hw0
      clear hwo hB hRel hsm ho hhole HL
      rw [hwl] at HBK hcv
      have HWL := Lib.hid hwl
      clear hwl
      go_wp2_with fail
      go_loopw [93] (fun _ wr => ∃ (va : Option Addr) (j c' : Nat) (ws' : WS), Hid (ws'.length = j) ∧ j ≤ c' ∧ j ≤ 10000 ∧ Hid (BookAt wr w.heap.size p (.slice va j c') mb m ws' f out.length) ∧ Hid (popT ws = popT ws') ∧ Hid (Turns w.heap.size wo wr)) (fun _ wr => lenCell wr p)
      case atStart => exact ⟨va, k, vc, ws, HWL, hcv, hK, HBK, Lib.hid rfl, by rw [← HWO.out]; exact Lib.hid (Turns.refl _ _)⟩
      case round =>
        obtain ⟨va', j, c', ws', HL, hjc, hj, HB, HP, Hb2⟩ := hrel
        have hB0 : w.heap.size ≤ wo.heap.size := Hb.out.size
        obtain ⟨c0, c1⟩ := HB.out.cell0
        clear HBK hw0
        rcases list_last ws' with rfl | ⟨r, x, rfl⟩
        · obtain rfl : j = 0 := HL.out.symm
          go_wp2_with fail
          go_quiet (fail)
          go_wp2_with fail
          go_ret2
          refine ⟨Hb.out.trans (Hb2.out.then (below_drewN (Below.refl _ _) _) hB0).below, .inr ⟨p, [], out, by rw [HE.out], (by rw [HE.out]; rfl), _, mb, m, f, HB.out.below (below_drewN (Below.refl _ _) _), ?_, hm, HSM.out⟩⟩
          have := HRL.out
          rw [HP.out] at this
          exact this
        · obtain ⟨n, hn⟩ : ∃ n, n = r.length := ⟨_, rfl⟩
          obtain rfl : j = n + 1 := by rw [← HL.out, hn]; simp
          have HO := HB.out.own
          rw [HL.out] at HO
          obtain ⟨g, cp, hv, _, hg, _, _⟩ := HO.shape (by omega)
          cases hv
          have hlt := HO.cellAt (n * 2 + 1) (by omega)
          clear HO
          have eat := (wordCells_at (r ++ [x]) n (by rw [hn]; simp)).2
          have egd : (r ++ [x]).getD n default = x := by rw [hn]; simp
          rw [eat, egd] at hlt
          have z1 : IntKind.i64.wrap (((n + 1 : Nat) : Int) - 1) = (n : Int) := by rw [IntKind.wrap_i64]; omega
          have z2 : (0 : Int) ≤ (n : Int) := by omega
          have z3 : (n : Int) < ((n + 1 : Nat) : Int) := by omega
          have HN2 := Lib.hid hn
          clear eat egd hn
          obtain ⟨xn, xu⟩ := x
          by_cases hx : xu = 0
          · subst hx
            dsimp only at hlt
            go_wp2_with fail
            go_quiet (fail)
            have HBz := Lib.hid (HB.out.below (below_drewN (Below.refl _ _) nq))
            have Hbz := Lib.hid (Hb2.out.then (below_drewN (Below.refl _ _) nq) hB0)
            have HMz : Hid (lenCell wr p = n + 1) := Lib.hid (by unfold lenCell; rw [c0])
            generalize World.drewN wr nq = wz at *
            clear c0 c1 hlt HB Hb2
            obtain ⟨c0, c1⟩ := HBz.out.cell0
            have f0 := free_row HBz.out.row 0
            go_wp2_with fail
            have y1 : n ≤ c' := by omega
            have y2 : (n : Int) ≤ (c' : Int) := by omega
            have y3 : IntKind.i64.wrap (n : Int) = (n : Int) := by rw [IntKind.wrap_i64]; omega
            go_still_tail 14, (by kernel_rfl)
            change wpList _ _ _ _ _ wz.drew
            have HBd := Lib.hid (HBz.out.below ((Below.refl _ _).drew))
            have Hbd := Lib.hid (Hbz.out.then (Below.refl _ _).drew hB0)
            generalize World.drew wz = wd at *
            clear c0 c1 f0 HBz Hbz
            obtain ⟨c0, c1⟩ := HBd.out.cell0
            have f0 := free_row HBd.out.row 0
            go_wp2_with fail
            have hr : (r ++ [(xn, 0)]).take n = r := by rw [HN2.out]; simp
            have HBn : BookAt (wd.setCell ⟨p, 0, none⟩ (.slice (some ⟨g, 0, none⟩) n c')) w.heap.size p (.slice (some ⟨g, 0, none⟩) n c') mb m r f out.length := by
              have hx := HBd.out
              rw [← HL.out] at hx
              have := hx.cutK n (by rw [HL.out]; omega) y1
              rw [hr] at this
              exact this
            go_roundw
            case rel => exact ⟨_, n, c', r, Lib.hid HN2.out.symm, y1, by omega, Lib.hid HBn, Lib.hid (by rw [HP.out, popT_yes r _ rfl]), Lib.hid (Hbd.out.setCell (by exact HBd.out.bp) HBd.out.row (.inl rfl) _)⟩
            case measure =>
              rw [HMz.out]
              unfold lenCell
              rw [HBn.cell0.1]
              exact Nat.lt_succ_self _
          · dsimp only at hlt
            have y0 : ((xu : Int) == 0) = false := by simp; omega
            go_wp2_with fail
            go_quiet (fail)
            go_wp2_with fail
            go_ret2
            refine ⟨Hb.out.trans (Hb2.out.then (below_drewN (Below.refl _ _) _) hB0).below, .inr ⟨p, r ++ [(xn, xu)], out, by rw [HE.out], (by rw [HE.out]; rfl), _, mb, m, f, HB.out.below (below_drewN (Below.refl _ _) _), ?_, hm, HSM.out⟩⟩
            have := HRL.out
            rw [HP.out, popT_no r (xn, xu) hx] at this
            exact this
end Go.Proofs.Ytoflicfghonhcaa
