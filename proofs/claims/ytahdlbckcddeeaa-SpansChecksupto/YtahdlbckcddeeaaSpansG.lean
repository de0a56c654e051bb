/- WALKS OF LAYER 14 (spans): what Label holds in memory, and its inner function. -/
import Derived.Test.YtahdlbckcddeeaaSpansC
import Derived.Test.YtahdlbckcddeeaaSpansPlainG
import Derived.Test.YtahdlbckcddeeaaParseC
import Derived.Test.YtahdlbckcddeeaaKit2
import Derived.OneCell
namespace Go.Proofs.Ytahdlbckcddeeaa
open Go.RowKit
set_option linter.unusedVariables false
def natVals (l : List Nat) : List Value := l.map (fun i : Nat => Value.int .i64 (i : Int))
/-- Label's four blocks: the row of spans (g), the variables 'out' (pt), 'open' (po), 'at' (pa). -/
structure LabAt (w : World) (g pt po pa : Nat) (vo : Value) (s : LSt) : Prop where
  hg : w.heap[g]? = some (.cells (spnCells s.out).toArray 43 (0, 0))
  hpt : w.heap[pt]? = some (.cells #[.slice (some ⟨g, 0, none⟩) s.out.length s.out.length] 26 (0, 0))
  hpo : w.heap[po]? = some (.cells #[vo] 32 (0, 0))
  hpa : w.heap[pa]? = some (.cells #[.int .i64 s.at_] 3 (0, 0))
  own : OwnS w (pa + 1) 3 1 vo s.opn.length (natVals s.opn)
  lt : ∀ i ∈ s.opn, i < s.out.length
  gpt : g < pt
  ptpo : pt < po
  popa : po < pa
theorem ownS_block {w w' : World} {base : Nat} {e : TypeId} {size : Nat} {v : Value} {n : Nat} {xs : List Value} (h : OwnS w base e size v n xs) (hk : ∀ k, base ≤ k → k < w.heap.size → w'.heap[k]? = w.heap[k]?) : OwnS w' base e size v n xs := by
  obtain ⟨h1, h2 | ⟨g, cap, cur, hv, hg, hh, r⟩⟩ := h
  · exact ⟨h1, .inl h2⟩
  · exact ⟨h1, .inr ⟨g, cap, cur, hv, hg, by rw [hk g hg (Array.getElem?_eq_some_iff.1 hh).1]; exact hh, r⟩⟩
theorem LabAt.setPa {w : World} {g pt po pa : Nat} {vo : Value} {s : LSt} (h : LabAt w g pt po pa vo s) (n : Int) : LabAt (w.setCell ⟨pa, 0, none⟩ (.int .i64 n)) g pt po pa vo ⟨s.out, s.opn, n⟩ := by
  have h1 := h.gpt; have h2 := h.ptpo; have h3 := h.popa
  exact ⟨(Below.heap_setCell _ _ _ _ (by show g ≠ pa; omega)).trans h.hg, (Below.heap_setCell _ _ _ _ (by show pt ≠ pa; omega)).trans h.hpt, (Below.heap_setCell _ _ _ _ (by show po ≠ pa; omega)).trans h.hpo, one_setCell h.hpa,
    ownS_block h.own (fun k hk _ => Below.heap_setCell _ _ _ _ (by show k ≠ pa; omega)), h.lt, h1, h2, h3⟩
theorem LabAt.setPo {w : World} {g pt po pa : Nat} {vo : Value} {s : LSt} (h : LabAt w g pt po pa vo s) (v : Value) (l : List Nat) (hown : OwnS w (pa + 1) 3 1 v l.length (natVals l)) (hl : ∀ i ∈ l, i < s.out.length) : LabAt (w.setCell ⟨po, 0, none⟩ v) g pt po pa v ⟨s.out, l, s.at_⟩ := by
  have h1 := h.gpt; have h2 := h.ptpo; have h3 := h.popa
  exact ⟨(Below.heap_setCell _ _ _ _ (by show g ≠ po; omega)).trans h.hg, (Below.heap_setCell _ _ _ _ (by show pt ≠ po; omega)).trans h.hpt, one_setCell h.hpo, (Below.heap_setCell _ _ _ _ (by show pa ≠ po; omega)).trans h.hpa,
    ownS_block hown (fun k hk _ => Below.heap_setCell _ _ _ _ (by show k ≠ po; omega)), hl, h1, h2, h3⟩
theorem LabAt.setG {w : World} {g pt po pa : Nat} {vo : Value} {s : LSt} (h : LabAt w g pt po pa vo s) (j : Nat) (n : Int) (o : List (Int × Int)) (ho : (spnCells s.out).toArray.setIfInBounds j (.int .i64 n) = (spnCells o).toArray) (hl : o.length = s.out.length) : LabAt (w.setCell ⟨g, j, none⟩ (.int .i64 n)) g pt po pa vo ⟨o, s.opn, s.at_⟩ := by
  have h1 := h.gpt; have h2 := h.ptpo; have h3 := h.popa
  refine ⟨?_, ?_, (Below.heap_setCell _ _ _ _ (by show po ≠ g; omega)).trans h.hpo, (Below.heap_setCell _ _ _ _ (by show pa ≠ g; omega)).trans h.hpa,
    ownS_block h.own (fun k hk _ => Below.heap_setCell _ _ _ _ (by show k ≠ g; omega)), (by rw [hl]; exact h.lt), h1, h2, h3⟩
  · rw [heap_setCell_same _ _ _ _ _ _ h.hg, ho]
  · show (w.setCell _ _).heap[pt]? = some (.cells #[.slice (some ⟨g, 0, none⟩) o.length o.length] _ (0, 0))
    rw [hl]
    exact (Below.heap_setCell _ _ _ _ (by show pt ≠ g; omega)).trans h.hpt
theorem LabAt.below {w w' : World} {g pt po pa : Nat} {vo : Value} {s : LSt} (h : LabAt w g pt po pa vo s) (hb : Below w.heap.size w w') : LabAt w' g pt po pa vo s :=
  ⟨(hb.block _ (lt_of_block h.hg)).trans h.hg, (hb.block _ (lt_of_block h.hpt)).trans h.hpt, (hb.block _ (lt_of_block h.hpo)).trans h.hpo, (hb.block _ (lt_of_block h.hpa)).trans h.hpa, h.own.below hb, h.lt, h.gpt, h.ptpo, h.popa⟩
theorem LabAt.top {w : World} {g pt po pa : Nat} {vo : Value} {s : LSt} (h : LabAt w g pt po pa vo s) (hn : 0 < s.opn.length) : ∃ go cp, vo = .slice (some ⟨go, 0, none⟩) s.opn.length cp ∧ pa + 1 ≤ go ∧ go < w.heap.size ∧ s.opn.length ≤ cp ∧ w.cell? ⟨go, s.opn.length - 1, none⟩ = some (.int .i64 (s.opn.getLastD 0 : Nat)) := by
  obtain ⟨go, cp, rfl, h1, h2, h3, h4⟩ := h.own.shape hn
  refine ⟨go, cp, rfl, h1, h2, h3, ?_⟩
  rw [h.own.cellAt _ (by omega)]
  unfold natVals
  rw [List.getElem?_map, List.getElem?_eq_getElem (by omega)]
  simp only [Option.map_some]
  rw [List.getLastD_eq_getLast?, List.getLast?_eq_getElem?, List.getElem?_eq_getElem (by omega)]
  rfl
theorem natVals_take (l : List Nat) : (natVals l).take ((l.length - 1) * 1) = natVals l.dropLast := by
  unfold natVals
  rw [List.dropLast_eq_take, List.map_take, Nat.mul_one]
/-- How many are open: the closure's measure. -/
def lenAt (w : World) (p : Nat) : Nat := match w.cell? ⟨p, 0, none⟩ with | some v => lenOf v | none => 0
theorem row_free {w : World} {b : Nat} {cs : Array Value} {t : TypeId} (h : w.heap[b]? = some (.cells cs t (0, 0))) (i : Nat) : w.frozen? ⟨b, i, none⟩ = false := by simp [World.frozen?, h]
set_option maxRecDepth 100000 in
set_option maxHeartbeats 1000000 in
theorem shut_any (B g pt po pa lv k : Nat) (s : LSt) (vo : Value) (w : World) (h : LabAt w g pt po pa vo s) (hk : s.at_ + s.opn.length * gapI = 2 * k * gapI) (hk0 : 0 ≤ s.at_) (hkm : k ≤ 1000000) (hlv : lv ≤ 1000) (hB : B ≤ g) :
    Calls Try.prog 29 #[.int .i64 lv, .pointer (some ⟨po, 0, none⟩), .pointer (some ⟨pa, 0, none⟩), .pointer (some ⟨pt, 0, none⟩)] w fun e w' =>
      e = .returned (.tuple #[]) ∧ ∃ vo', LabAt w' g pt po pa vo' (shutP lv s) ∧ Below B w w' := by
  obtain ⟨sf, hsf⟩ : ∃ sf, sf = shutP lv s := ⟨_, rfl⟩
  rw [← hsf]
  have HS := Lib.hid hsf
  have HW := Lib.hid h
  have HK := Lib.hid hk
  have hgl := h.gpt; have hptl := h.ptpo; have hpol := h.popa
  clear hsf h hk
  go_enter Try.func29, Try.ntmps29
  go_wp2_with fail
  go_loopw [5] (fun _ wr => ∃ (c : LSt) (vo : Value), Hid (LabAt wr g pt po pa vo c) ∧ Hid (sf = shutP lv c) ∧ Hid (c.at_ + c.opn.length * gapI = 2 * k * gapI) ∧ 0 ≤ c.at_ ∧ Below B w wr) (fun _ wr => lenAt wr po)
  case atStart => exact ⟨s, vo, HW, HS, HK, hk0, Below.refl _ _⟩
  case round =>
    clear HW HS HK hk0
    obtain ⟨c, vo, HW, HS, HK, hk0, hb⟩ := hrel
    obtain ⟨m, hm⟩ : ∃ m, m = c.opn.length := ⟨_, rfl⟩
    obtain ⟨a0, c0, rfl⟩ := HW.out.own.len
    have HM := Lib.hid hm
    clear hm
    have f1 := cell_of_one HW.out.hpo
    rw [← HM.out] at f1
    have f2 := cell_of_one HW.out.hpa
    have f3 := cell_of_one HW.out.hpt
    have f2' := free_of_one HW.out.hpa
    have f1' := free_of_one HW.out.hpo
    have HL0 : Hid (lenAt wr po = m) := Lib.hid (by unfold lenAt; rw [f1]; rfl)
    by_cases hlm : lv < m
    · have ha : c.at_ + 1099511627776 ≤ 4611686018427387904 := by
        have := HK.out
        rw [← HM.out] at this
        unfold gapI at this
        omega
      obtain ⟨n, hn⟩ : ∃ n, n = c.out.length := ⟨_, rfl⟩
      obtain ⟨i, hi⟩ : ∃ i, i = c.opn.getLastD 0 := ⟨_, rfl⟩
      obtain ⟨j, hj⟩ : ∃ j, m = j + 1 := ⟨m - 1, by omega⟩
      have hmem : c.opn.getLastD 0 ∈ c.opn := by
        have h0 := HM.out
        rw [List.getLastD_eq_getLast?]
        cases hc : c.opn.getLast? with
        | none => rw [List.getLast?_eq_none_iff] at hc; rw [hc] at h0; simp at h0; omega
        | some x => exact List.mem_of_getLast? hc
      have hin : i < n := by rw [hi, hn]; exact HW.out.lt _ hmem
      have hmx : m ≤ 1000000 * 2 := by
        have := HK.out
        rw [← HM.out] at this
        unfold gapI at this
        omega
      obtain ⟨go, cp, hv1, g1, g2, g3, g4⟩ := HW.out.top (by rw [← HM.out]; omega)
      cases hv1
      rw [← HM.out] at g3 g4
      rw [← hn] at f3
      have HN := Lib.hid hn
      have HI := Lib.hid hi
      have HJ := Lib.hid hj
      clear hn hi hj g4 hmem
      go_wp2_with fail
      have HW1 := Lib.hid (HW.out.setPa (c.at_ + 1099511627776))
      generalize hw1 : World.setCell wr _ _ = w1 at *
      have hb1 : Below B w w1 := by rw [← hw1]; exact hb.setCell (by show B ≤ pa; omega) _
      clear hw1 hb f1 f2 f3 f1' f2' HW g1 g2
      have f1 := cell_of_one HW1.out.hpo
      have f2 := cell_of_one HW1.out.hpa
      have f3 := cell_of_one HW1.out.hpt
      obtain ⟨go2, cp2, hv2, g1, g2, _, g4⟩ := HW1.out.top (by show 0 < c.opn.length; rw [← HM.out]; omega)
      cases hv2
      have e5 := (spnCells_at c.out i (by rw [← HN.out]; exact hin)).2
      have f5 : w1.cell? ⟨g, i * 2 + 1, none⟩ = some (.int .i64 (c.out.getD i default).2) := by
        rw [cell_of_row w1 g _ _ _ _ HW1.out.hg]; simpa using e5
      have f5' := row_free HW1.out.hg (i * 2 + 1)
      have hgg : go ≠ g := by omega
      have hgp : go ≠ pa := by omega
      dsimp only at f1 f2 f3 f5 f5' g4
      rw [← HM.out] at f1 g4
      rw [← HN.out] at f3
      rw [← HI.out] at g4
      rw [HJ.out, Nat.add_sub_cancel] at g4
      generalize (c.out.getD i default).2 = z at f5
      have z1 : IntKind.i64.wrap ((m : Int) - 1) = (j : Int) := by rw [IntKind.wrap_i64]; have := HJ.out; omega
      have z2 : (0 : Int) ≤ (j : Int) := by omega
      have z3 : (j : Int) < (m : Int) := by have := HJ.out; omega
      have z4 : (0 : Int) ≤ (i : Int) := by omega
      have z5 : (i : Int) < (n : Int) := by omega
      have HSK : Hid (∀ v, (w1.setCell ⟨g, i * 2 + 1, none⟩ v).drew.cell? ⟨po, 0, none⟩ = some (.slice (some ⟨go, 0, none⟩) m c0) ∧ (w1.setCell ⟨g, i * 2 + 1, none⟩ v).drew.cell? ⟨pa, 0, none⟩ = some (.int .i64 (c.at_ + 1099511627776)) ∧ (w1.setCell ⟨g, i * 2 + 1, none⟩ v).drew.cell? ⟨pt, 0, none⟩ = some (.slice (some ⟨g, 0, none⟩) n n) ∧ (w1.setCell ⟨g, i * 2 + 1, none⟩ v).drew.cell? ⟨go, j, none⟩ = some (.int .i64 (i : Int))) := Lib.hid fun v =>
        ⟨(World.cell?_setCell_other _ _ _ _ (by intro e; injection e with e; omega)).trans f1, (World.cell?_setCell_other _ _ _ _ (by intro e; injection e with e; omega)).trans f2, (World.cell?_setCell_other _ _ _ _ (by intro e; injection e with e; omega)).trans f3, (World.cell?_setCell_other _ _ _ _ (by intro e; injection e with e; omega)).trans g4⟩
      go_region_held3 (fun w' => w'.cell? ⟨po, 0, none⟩ = some (.slice (some ⟨go, 0, none⟩) m c0) ∧ w'.cell? ⟨pa, 0, none⟩ = some (.int .i64 (c.at_ + 1099511627776)) ∧ w'.cell? ⟨pt, 0, none⟩ = some (.slice (some ⟨g, 0, none⟩) n n) ∧ w'.cell? ⟨go, j, none⟩ = some (.int .i64 (i : Int)))
        (first | exact ⟨f1, f2, f3, g4⟩ | exact HSK.out _) (fail)
      clear HSK f1 f2 f3 g4 f5 f5'
      have HW2 := Lib.hid ((HW1.out.setG (i * 2 + 1) (c.at_ + 1099511627776) _ (spnCells_setTo _ _ _) (setTo_len _ _ _)).below ((Below.refl _ _).drew))
      have hb2 : Below B w (w1.setCell ⟨g, i * 2 + 1, none⟩ (.int .i64 (c.at_ + 1099511627776))).drew := (hb1.setCell (by show B ≤ g; omega) _).drew
      dsimp only at HW2
      generalize World.drew (World.setCell w1 _ _) = w2 at *
      clear HW1 hb1 ‹_ ∧ _ ∧ _ ∧ _›
      have f1 := cell_of_one HW2.out.hpo
      have f1' := free_of_one HW2.out.hpo
      rw [← HM.out] at f1
      have y1 : j ≤ c0 := by omega
      have y2 : (j : Int) ≤ (c0 : Int) := by omega
      go_wp2_with fail
      have hown := (HW2.out.own.cut j j (by rw [← HM.out]; have := HJ.out; omega) (Nat.le_refl _) y1)
      have hs : Hid (shut1 c = ⟨setTo c.out i (c.at_ + 1099511627776), c.opn.dropLast, c.at_ + 1099511627776⟩) := by unfold shut1 gapI; rw [HI.out]; exact Lib.hid rfl
      have hd : c.opn.dropLast.length = j := by rw [List.length_dropLast, ← HM.out]; have := HJ.out; omega
      go_roundw
      case rel =>
        refine ⟨⟨setTo c.out i (c.at_ + 1099511627776), c.opn.dropLast, c.at_ + 1099511627776⟩, _, Lib.hid (HW2.out.setPo _ c.opn.dropLast ?_ ?_), Lib.hid ?_, Lib.hid ?_, ?_, hb2.setCell (by show B ≤ po; omega) _⟩
        · rw [hd]
          have e := natVals_take c.opn
          rw [← hd]
          rw [← hd, List.length_dropLast] at hown
          rw [e] at hown
          rw [List.length_dropLast]
          exact hown
        · intro x hx
          rw [setTo_len]
          exact HW2.out.lt x ((List.dropLast_sublist _).subset hx) |> fun h => by simpa [setTo_len] using h
        · rw [HS.out, shutP_more lv c (by rw [← HM.out]; exact hlm), hs.out]
        · have := HK.out
          rw [← HM.out, HJ.out] at this
          show c.at_ + 1099511627776 + (c.opn.dropLast.length : Int) * gapI = _
          rw [hd]
          unfold gapI at this ⊢
          omega
        · show 0 ≤ c.at_ + 1099511627776
          omega
      case measure =>
        have e1 := one_setCell (u := .slice (some ⟨go, 0, none⟩) j j) HW2.out.hpo
        have e2 := cell_of_one e1
        have e3 := HJ.out
        rw [HL0.out, e3]
        unfold lenAt
        rw [e2]
        exact Nat.lt_succ_self _
    · go_wp2_with fail
      go_end0
      have HR := HW.out
      rw [← shutP_done lv c (by rw [← HM.out]; exact hlm), ← HS.out] at HR
      exact ⟨rfl, _, HR, hb⟩
end Go.Proofs.Ytahdlbckcddeeaa
