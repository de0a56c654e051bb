/- WALKS OF LAYER 14 (spans): Label. -/
import Derived.Test.YtahdlbckcddeeaaSpansG
import Derived.Deep.Cut
namespace Go.Proofs.Ytahdlbckcddeeaa
open Go.RowKit
set_option linter.unusedVariables false
theorem checkFrom_ok (L : List Item) : ∀ (m k : Nat), (checkFrom L m k).2 = 0 → ∀ j, k ≤ j → j < k + m → oneP j (L.getD (j - 1) default) (L.getD j default) = 0
  | 0, k, _, j, h1, h2 => by omega
  | m + 1, k, h, j, h1, h2 => by
    unfold checkFrom at h
    by_cases hc : oneP k (L.getD (k - 1) default) (L.getD k default) ≠ 0
    · rw [if_pos hc] at h; exact absurd h hc
    · rw [if_neg hc] at h
      by_cases hj : j = k
      · subst hj; simpa using hc
      · exact checkFrom_ok L m (k + 1) h j (by omega) (by omega)
theorem check_ok {L : List Item} (h : (checkP L).2 = 0) : L ≠ [] ∧ ∀ j, j < L.length → oneP j (L.getD (j - 1) default) (L.getD j default) = 0 := by
  unfold checkP at h
  by_cases hL : L = []
  · rw [if_pos hL] at h; exact absurd h (by decide)
  · rw [if_neg hL] at h
    exact ⟨hL, fun j hj => checkFrom_ok L _ _ h j (by omega) (by omega)⟩
theorem oneP_few {k : Nat} {prev x : Item} (h : oneP k prev x = 0) : k < 1000 := by
  rw [oneP_eq] at h
  by_cases hp : placeP k prev x ≠ 0
  · rw [if_pos hp] at h; exact absurd h hp
  · have hz : placeP k prev x = 0 := by simpa using hp
    unfold placeP at hz
    by_cases hk : k = 0
    · omega
    · rw [if_neg hk] at hz
      unfold place1 at hz
      split at hz
      · exact absurd hz (by decide)
      split at hz
      · exact absurd hz (by decide)
      split at hz
      · exact absurd hz (by decide)
      omega
theorem check_few {L : List Item} (h : (checkP L).2 = 0) : L.length ≤ 1000 := by
  have := (check_ok h).2 (L.length - 1)
  rcases Nat.eq_zero_or_pos L.length with h0 | h0
  · omega
  · have := oneP_few (this (by omega)); omega
theorem made_spn (n : Nat) : madeCells #[.int .i64 0, .int .i64 0] (n * 2) = (spnCells (List.replicate n (0, 0))).toArray := by
  apply Array.ext
  · rw [size_madeCells]; simp [spnCells_len]
  · intro i h1 h2
    have hi : i < n * 2 := by rw [size_madeCells] at h1; exact h1
    have h3 : (spnCells (List.replicate n ((0 : Int), (0 : Int)))).toArray[i]? = some (.int .i64 0) := by
      have hr : i / 2 < n := by omega
      have := spnCells_at (List.replicate n ((0 : Int), (0 : Int))) (i / 2) (by simpa using hr)
      have hg : (List.replicate n ((0 : Int), (0 : Int))).getD (i / 2) default = (0, 0) := by simp [List.getD_eq_getElem?_getD, hr]
      rw [hg] at this
      rcases Nat.mod_two_eq_zero_or_one i with hm | hm
      · have := this.1
        rw [show i / 2 * 2 = i by omega] at this
        simpa using this
      · have := this.2
        rw [show i / 2 * 2 + 1 = i by omega] at this
        simpa using this
    have h4 : (madeCells #[Value.int .i64 0, Value.int .i64 0] (n * 2))[i]? = some (.int .i64 0) := by
      simp [madeCells, hi]
      rcases Nat.mod_two_eq_zero_or_one i with hm | hm <;> simp [hm]
    rw [Array.getElem?_eq_getElem h1] at h4
    rw [Array.getElem?_eq_getElem h2] at h3
    rw [Option.some.injEq] at h3 h4
    rw [h3, h4]
theorem make_spn (n : Nat) (hn : n ≤ 1000) (w : World) : (Instr.makeSlice 26 (.int .i64 (n : Int)) (.int .i64 (n : Int))).run Try.prog w = .ok (.slice (some ⟨w.heap.size, 0, none⟩) n n) (w.alloc (.cells (spnCells (List.replicate n (0, 0))).toArray 43)) := by
  obtain ⟨k0, hk1, hk2, hk3, hk4⟩ := info_parts infoSpn
  have := run_make w 26 43 k0 (.agg #[.int .i64 0, .int .i64 0]) Try.underlying26 hk1 hk2 .i64 .i64 n n (by omega) (by omega) (by rw [hk4]; omega) (by omega)
  rw [this, hk3]
  simp only [Int.toNat_natCast]
  show Result.ok _ (w.alloc (.cells (madeCells #[.int .i64 0, .int .i64 0] (n * 2)) 43)) = _
  rw [made_spn]
theorem lab_init (w : World) (L : List Item) : LabAt ((((w.alloc (Obj.cells (spnCells (List.replicate L.length (0, 0))).toArray 43)).alloc (Obj.cells #[Value.slice (some { block := w.heap.size, off := 0 }) L.length L.length] 26)).alloc (Obj.cells #[Value.slice none 0 0] 32)).alloc (Obj.cells #[Value.int IntKind.i64 0] 3)) w.heap.size (w.heap.size + 1) (w.heap.size + 1 + 1) (w.heap.size + 1 + 1 + 1) (.slice none 0 0) (labGo L 0) := by
  have hn : ∀ (w : World) (o : Obj) (k : Nat), k = w.heap.size → (w.alloc o).heap[k]? = some o := fun w o k h => by rw [h]; exact heap_alloc_new w o
  have ho : ∀ (w : World) (o o' : Obj) (k : Nat), w.heap[k]? = some o → (w.alloc o').heap[k]? = some o := fun w o o' k h => (Below.heap_alloc _ _ _ (lt_of_block h)).trans h
  refine ⟨?_, ?_, ?_, ?_, OwnS.nil _ _ _ _, fun i hi => (by cases hi), by omega, by omega, by omega⟩
  · exact ho _ _ _ _ (ho _ _ _ _ (ho _ _ _ _ (hn _ _ _ rfl)))
  · unfold labGo
    simp only [List.length_replicate]
    exact ho _ _ _ _ (ho _ _ _ _ (hn _ _ _ (by simp)))
  · exact ho _ _ _ _ (hn _ _ _ (by simp))
  · exact hn _ _ _ (by simp)
theorem LabAt.push4 {w w' : World} {g pt po pa : Nat} {vo : Value} {s : LSt} (h : LabAt w g pt po pa vo s) {v : Value} {l : List Nat} (hown : OwnS w' (pa + 1) 3 1 v l.length (natVals l)) (hg : w.grownBy w' vo.ownBlock) :
    w'.heap[g]? = some (.cells (spnCells s.out).toArray 43 (0, 0)) ∧ w'.heap[pt]? = some (.cells #[.slice (some ⟨g, 0, none⟩) s.out.length s.out.length] 26 (0, 0)) ∧ w'.heap[po]? = some (.cells #[vo] 32 (0, 0)) ∧ w'.heap[pa]? = some (.cells #[.int .i64 s.at_] 3 (0, 0)) := by
  have h1 := h.gpt; have h2 := h.ptpo; have h3 := h.popa
  have hne : ∀ k, k ≤ pa → some k ≠ vo.ownBlock := fun k hk e => by have := (h.own.block k e.symm).1; omega
  exact ⟨(hg.block _ (lt_of_block h.hg) (hne _ (by omega))).trans h.hg, (hg.block _ (lt_of_block h.hpt) (hne _ (by omega))).trans h.hpt, (hg.block _ (lt_of_block h.hpo) (hne _ (by omega))).trans h.hpo, (hg.block _ (lt_of_block h.hpa) (hne _ (by omega))).trans h.hpa⟩
theorem LabAt.push {w w' : World} {g pt po pa : Nat} {vo : Value} {s : LSt} (h : LabAt w g pt po pa vo s) {v : Value} {l : List Nat} (hown : OwnS w' (pa + 1) 3 1 v l.length (natVals l)) (hg : w.grownBy w' vo.ownBlock) (hl : ∀ i ∈ l, i < s.out.length) :
    LabAt (w'.setCell ⟨po, 0, none⟩ v) g pt po pa v ⟨s.out, l, s.at_⟩ := by
  have h1 := h.gpt; have h2 := h.ptpo; have h3 := h.popa
  obtain ⟨a1, a2, a3, a4⟩ := h.push4 hown hg
  exact ⟨(Below.heap_setCell _ _ _ _ (by show g ≠ po; omega)).trans a1, (Below.heap_setCell _ _ _ _ (by show pt ≠ po; omega)).trans a2, one_setCell a3, (Below.heap_setCell _ _ _ _ (by show pa ≠ po; omega)).trans a4,
    ownS_block hown (fun k hk _ => Below.heap_setCell _ _ _ _ (by show k ≠ po; omega)), hl, h1, h2, h3⟩
def LabelNo (L : List Item) (w : World) (e : Ending) (w' : World) : Prop := e = .returned (.tuple #[.slice none 0 0, .int .i64 (checkP L).2]) ∧ Below w.heap.size w w'
def LabelYes (L : List Item) (w : World) (e : Ending) (w' : World) : Prop :=
  ∃ g, e = .returned (.tuple #[.slice (some ⟨g, 0, none⟩) L.length L.length, .int .i64 0]) ∧ w.heap.size ≤ g ∧ w'.heap[g]? = some (.cells (spnCells (labelP L)).toArray 43 (0, 0)) ∧ Below w.heap.size w w'
set_option maxRecDepth 100000 in
set_option maxHeartbeats 2000000 in
theorem label_no (a : Option Addr) (len cap : Nat) (L : List Item) (w : World) (hi : ItemsSl w a len L) (hz : (checkP L).2 ≠ 0) :
    Calls Try.prog 14 #[.slice a len cap] w (LabelNo L w) := by
  have HC := Lib.hid (check_any a len cap L w hi)
  unfold LabelNo
  clear hi
  generalize hc1 : (checkP L).1 = c1 at HC
  generalize hc2 : (checkP L).2 = c2 at *
  clear hc1 hc2
  go_enter Try.func14, Try.ntmps14
  go_wp2_with (go_at_call 25; refine HC.out.mono ?_; rintro e w1 ⟨rfl, hb1⟩)
  go_ret2
  exact ⟨rfl, hb1⟩
set_option maxRecDepth 100000 in
set_option maxHeartbeats 2000000 in
theorem label_yes (b off len cap : Nat) (L : List Item) (hl : len = L.length) (w : World) (hi : ItemsAt w b off L) (hz : (checkP L).2 = 0) :
    Calls Try.prog 14 #[.slice (some ⟨b, off, none⟩) len cap] w (LabelYes L w) := by
  have hmf : ∀ (fn : Fn) (first cap : Array Value) (w : World), (Instr.makeFunc fn first cap).run Try.prog w = .ok (.func fn first cap) w := fun _ _ _ _ => rfl
  have hlen : len ≤ 1000 := by rw [hl]; exact check_few hz
  have hmk := make_spn len hlen
  have h0 : 0 < len := by rw [hl]; exact List.length_pos_iff.2 (check_ok hz).1
  have hbl : b < w.heap.size := block_lt_of_cell (hi 0 (by omega)).level
  have HC := Lib.hid (check_any (some ⟨b, off, none⟩) len cap L w ⟨hl, by omega, fun _ => ⟨b, off, rfl, hi⟩⟩)
  have HI := Lib.hid hi
  have HL := Lib.hid hl
  have HZ := Lib.hid hz
  generalize hc1 : (checkP L).1 = c1 at HC
  rw [hz] at HC
  clear hi hl hz hc1
  go_enter Try.func14, Try.ntmps14
  go_wp2_with (go_at_call 25; refine HC.out.mono ?_; rintro e w1 ⟨rfl, hb1⟩)
  have HLAB := Lib.hid (lab_init w1 L)
  rw [← HL.out] at HLAB
  have hBg : w.heap.size ≤ w1.heap.size := hb1.size
  have hbw : Below w.heap.size w ((((w1.alloc (Obj.cells (spnCells (List.replicate len (0, 0))).toArray 43)).alloc (Obj.cells #[Value.slice (some { block := w1.heap.size, off := 0 }) len len] 26)).alloc (Obj.cells #[Value.slice none 0 0] 32)).alloc (Obj.cells #[Value.int IntKind.i64 0] 3)) :=
    (((hb1.alloc (by omega) _).alloc (by simp; omega) _).alloc (by simp; omega) _).alloc (by simp; omega) _
  clear hmk hb1 HC
  generalize World.alloc (World.alloc _ _) _ = w2 at *
  generalize hpa : w1.heap.size + 1 + 1 + 1 = pa at *
  generalize hpo : w1.heap.size + 1 + 1 = po at *
  generalize hpt : w1.heap.size + 1 = pt at *
  generalize hg : w1.heap.size = g at *
  clear hpa hpo hpt hg
  obtain ⟨j0, hj, hj0, hj1, hj2⟩ := info_parts infoInt
  go_loopw [26] (fun i wr => ∃ (k : Nat) (vo : Value), k ≤ len ∧ i = .int .i64 k ∧ Hid (LabAt wr g pt po pa vo (labGo L k)) ∧ Below w.heap.size w wr) (fun i _ => len - (intOf i).toNat)
  case atStart => exact ⟨0, _, by omega, rfl, HLAB, hbw⟩
  case round =>
    clear HLAB hbw
    obtain ⟨k, vo, hk, rfl, HW, hb⟩ := hrel
    obtain ⟨s, hs⟩ : ∃ s, s = labGo L k := ⟨_, rfl⟩
    obtain ⟨q1, q2⟩ := labGo_at L k
    rw [← hs] at HW q1 q2
    have HS := Lib.hid hs
    have HQ1 := Lib.hid q1
    clear hs q1
    by_cases hlt : k < len
    · have hit := ((HI.out.below hb) k (by rw [← HL.out]; exact hlt))
      obtain ⟨x, hx⟩ : ∃ x, x = L.getD k default := ⟨_, rfl⟩
      rw [← hx] at hit
      obtain ⟨ao, al, ac, h4, ha⟩ := hit.attrs
      have h1 := hit.level
      have h2 := hit.kind
      have h3 := hit.name
      have h5 := hit.text
      have hlv := oneP_level ((check_ok HZ.out).2 k (by rw [← HL.out]; exact hlt))
      rw [← hx] at hlv
      obtain ⟨lv, hlv0⟩ := Int.eq_ofNat_of_zero_le hlv.1
      have hlvs : lv ≤ 1000 := by omega
      rw [hlv0] at h1
      have HLV := Lib.hid hlv0
      have HX := Lib.hid hx
      have hblr : b < wr.heap.size := Nat.lt_of_lt_of_le hbl hb.size
      clear hit hx ha hlv hlv0
      go_wp2_with fail
      refine (shut_any w.heap.size g pt po pa lv k s vo _ (HW.out.below ((Below.refl _ _).alloc (Nat.le_refl _) _)) HQ1.out q2 (by omega) hlvs hBg).mono ?_
      rintro e w3 ⟨rfl, vo3, hw3, hb3⟩
      have hb4 : Below w.heap.size w w3 := (hb.alloc hb.size _).trans hb3
      obtain ⟨r1, r2, r3⟩ := shutP_at lv s
      obtain ⟨sp, hsp⟩ : ∃ sp, sp = shutP lv s := ⟨_, rfl⟩
      have hol : sp.out.length = len := by rw [hsp, shutP_len, HS.out, labGo_len, HL.out]
      rw [← hsp] at hw3 r1 r2 r3
      have hat : sp.at_ + 1099511627776 ≤ 4611686018427387904 := by
        rw [HQ1.out] at r1
        unfold gapI at r1
        omega
      have hat0 : 0 ≤ sp.at_ := by omega
      have HW3 := Lib.hid hw3
      have HSP := Lib.hid hsp
      have HR1 := Lib.hid r1
      have HOL := Lib.hid hol
      have f1 := cell_of_one hw3.hpo
      have f1' := free_of_one hw3.hpo
      have f2 := cell_of_one hw3.hpa
      have f2' := free_of_one hw3.hpa
      have f3 := cell_of_one hw3.hpt
      have hgl := hw3.gpt; have hptl := hw3.ptpo; have hpol := hw3.popa
      rw [hol] at f3
      clear hw3 hsp r1 hol hb3 h1 h2 h3 h4 h5 HW hb q2 r3 hblr
      go_upto_region 13 with fail
      have HW4 := Lib.hid (HW3.out.setPa (sp.at_ + 1099511627776))
      generalize hw1 : World.setCell w3 _ _ = w4 at *
      have hb5 : Below w.heap.size w w4 := by rw [← hw1]; exact hb4.setCell (by show w.heap.size ≤ pa; omega) _
      clear hw1 hb4 f1 f1' f2 f2' f3 HW3
      have f2 := cell_of_one HW4.out.hpa
      have f3 := cell_of_one HW4.out.hpt
      dsimp only at f3
      rw [HOL.out] at f3
      have e5 := (spnCells_at sp.out k (by rw [HOL.out]; exact hlt)).1
      have f5 : w4.cell? ⟨g, k * 2, none⟩ = some (.int .i64 (sp.out.getD k default).1) := by
        rw [cell_of_row w4 g _ _ _ _ HW4.out.hg]; simpa using e5
      have f5' := row_free HW4.out.hg (k * 2)
      generalize (sp.out.getD k default).1 = z at f5
      clear e5
      have z1 : (0 : Int) ≤ (k : Int) := by omega
      have z2 : (k : Int) < (len : Int) := by omega
      go_upto_region 14 with fail
      have HW5 := Lib.hid (HW4.out.setG (k * 2) (sp.at_ + 1099511627776) _ (spnCells_setFrom sp.out k _) (setFrom_len _ _ _))
      have hb6 : Below w.heap.size w (w4.setCell ⟨g, k * 2, none⟩ (.int .i64 (sp.at_ + 1099511627776))) := hb5.setCell (by show w.heap.size ≤ g; omega) _
      dsimp only at HW5
      generalize World.setCell w4 _ _ = w5 at *
      clear HW4 hb5 f2 f3 f5 f5'
      obtain ⟨va, vc, rfl⟩ := HW5.out.own.len
      obtain ⟨m, hm⟩ : ∃ m, m = sp.opn.length := ⟨_, rfl⟩
      have f1 := cell_of_one HW5.out.hpo
      have ho5 := HW5.out.own
      dsimp only at f1 ho5
      have hml : m ≤ 1000000 := by rw [hm, r2]; omega
      rw [← hm] at f1 ho5
      have hpw : pa < w5.heap.size := lt_of_block HW5.out.hpa
      have HM := Lib.hid hm
      clear hm r2
      go_wp2_with (at_builtin; refine wpList_append_ownS _ rfl _ _ 32 rfl (pa + 1) 3 j0 (.int .i64 0) 1 8 Try.underlying32 hj hj0 hj1 hj2 rfl (by decide) _ _ _ rfl (ho5.alloc _) ⟨w5.heap.size, 0, none⟩ 1 1 [.int .i64 (k : Int)] rfl rfl ?c1 ?c2 ?c3 ?c4 ?c5 ?_)
      case c2 => rfl
      case c3 => unfold maxLen; omega
      case c4 => omega
      case c5 => first | omega | (simp; omega)
      intro v1 wa hown1 hgrow1
      have hba : Below w.heap.size w wa := below_grown (hb6.alloc hb6.size _) (ho5.alloc _) hgrow1 (by have := hb6.size; simp; omega) (by omega)
      have hol2 : Hid ((sp.opn ++ [k]).length = m + 1) := Lib.hid (by rw [List.length_append, ← HM.out]; rfl)
      have hown2 : OwnS wa (pa + 1) 3 1 v1 (sp.opn ++ [k]).length (natVals (sp.opn ++ [k])) := by
        rw [hol2.out]
        unfold natVals at hown1 ⊢
        rw [List.map_append]
        exact hown1
      obtain ⟨xa, xc, rfl⟩ := hown2.len
      rw [HM.out] at hgrow1
      have HW6 := HW5.out.below ((Below.refl _ _).alloc (Nat.le_refl _) (Obj.cells #[Value.int .i64 (k : Int)] 3))
      have HP4 := HW6.push4 hown2 hgrow1
      have HP := Lib.hid (HW6.push hown2 hgrow1 (fun i hi => by
        show i < (setFrom sp.out k _).length
        rw [setFrom_len, HOL.out]
        rcases List.mem_append.1 hi with hi | hi
        · have := HW5.out.lt i hi
          simpa [setFrom_len, HOL.out] using this
        · simp at hi; omega))
      have f1 := cell_of_one HP4.2.2.1
      have f1' := free_of_one HP4.2.2.1
      clear HW6 HP4 hown1 hown2 hgrow1 HW5 ho5 hb6
      go_wp2_with fail
      go_roundw
      case rel =>
        refine ⟨k + 1, .slice xa (sp.opn.length + 1) xc, by omega, by go_num, Lib.hid ?_, hba.setCell (by show w.heap.size ≤ po; omega) _⟩
        have e : labGo L (k + 1) = ⟨setFrom sp.out k (sp.at_ + 1099511627776), sp.opn ++ [k], sp.at_ + 1099511627776⟩ := by
          show labStep (labGo L k) k _ = _
          rw [← HX.out, HLV.out, ← HS.out]
          unfold labStep
          rw [Int.toNat_natCast, ← HSP.out]
          rfl
        rw [e]
        have hx2 := HP.out
        rw [List.length_append] at hx2
        exact hx2
      case measure => simp [intOf]; omega
    · obtain rfl : k = len := by omega
      go_wp2_with fail
      have HS0 := shut_any w.heap.size g pt po pa 0 k s vo wr HW.out HQ1.out q2 (by omega) (by omega) hBg
      rw [show ((0 : Nat) : Int) = 0 from rfl] at HS0
      refine HS0.mono ?_
      rintro e w3 ⟨rfl, vo3, hw3, hb3⟩
      have hb4 : Below w.heap.size w w3 := hb.trans hb3
      have f3 := cell_of_one hw3.hpt
      rw [shutP_len, HS.out, labGo_len, ← HL.out] at f3
      have hrow := hw3.hg
      have hfin : shutP 0 s = shutP 0 (labGo L L.length) := by rw [HS.out, ← HL.out]
      rw [hfin] at hrow
      have HROW := Lib.hid hrow
      clear hw3 hrow hb3 HW hfin HS0
      go_wp2_with fail
      go_ret2
      refine ⟨g, ?_, hBg, HROW.out, hb4⟩
      rw [← HL.out]
      rfl
end Go.Proofs.Ytahdlbckcddeeaa
