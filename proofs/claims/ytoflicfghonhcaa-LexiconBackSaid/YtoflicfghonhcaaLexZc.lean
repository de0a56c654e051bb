/- LAYER 15 (lexicon): the walk of LexiconBack. -/
import Derived.Test.YtoflicfghonhcaaLexZb
import Derived.Test.YtoflicfghonhcaaLexZa
namespace Go.Proofs.Ytoflicfghonhcaa
open Go.RowKit Go.WideMaps Go.Maps
set_option linter.unusedVariables false
/-- Names with their places; '' is none. -/
def numL : List ByteArray → Nat → List DW
  | [], _ => []
  | s :: r, i => if s = ByteArray.empty then numL r (i + 1) else (s, i + 1, 1) :: numL r (i + 1)
theorem numL_mem : ∀ (r : List ByteArray) (i : Nat) (x : DW), x ∈ numL r i ↔ ∃ j, j < r.length ∧ r.getD j default = x.1 ∧ x.1 ≠ ByteArray.empty ∧ x.2.1 = i + j + 1 ∧ x.2.2 = 1
  | [], i, x => ⟨fun h => (by cases h), fun ⟨j, h, _⟩ => (by simp at h)⟩
  | s :: r, i, x => by
    have ih := numL_mem r (i + 1) x
    constructor
    · intro h
      rw [numL] at h
      split at h
      · obtain ⟨j, h1, h2, h3, h4, h5⟩ := ih.1 h
        exact ⟨j + 1, by simp; omega, by simpa using h2, h3, by omega, h5⟩
      · rename_i hs
        rcases List.mem_cons.1 h with rfl | h
        · exact ⟨0, by simp, by simp, hs, rfl, rfl⟩
        · obtain ⟨j, h1, h2, h3, h4, h5⟩ := ih.1 h
          exact ⟨j + 1, by simp; omega, by simpa using h2, h3, by omega, h5⟩
    · rintro ⟨j, h1, h2, h3, h4, h5⟩
      cases j with
      | zero =>
        have e : s = x.1 := by simpa using h2
        rw [numL, if_neg (by rw [e]; exact h3)]
        obtain ⟨a, b, c⟩ := x
        simp only at e h4 h5
        subst e h5
        obtain rfl : b = i + 1 := by omega
        exact List.mem_cons_self
      | succ j =>
        have hm : x ∈ numL r (i + 1) := ih.2 ⟨j, by simp at h1; omega, by simpa using h2, h3, by omega, h5⟩
        rw [numL]
        split
        · exact hm
        · exact List.mem_cons_of_mem _ hm
theorem place_none {l : List DW} {s : ByteArray} (h : ∀ x ∈ l, x.1 ≠ s) : placeD (nameAt s) l = -1 := by
  rcases placeD_spec (nameAt s) l with ⟨h1, _⟩ | ⟨j, h1, h2, h3⟩
  · exact h1
  · simp only [nameAt, decide_eq_true_eq] at h3
    exact absurd h3 (h _ (getD_mem l j h1))
theorem loadD_good : ∀ (r : List ByteArray) (i : Nat) (out : List DW), (∀ s ∈ r, s ≠ ByteArray.empty → nameP s.data.toList = true) → (r.Pairwise (fun a b => a ≠ ByteArray.empty → a ≠ b)) → (∀ s ∈ r, s ≠ ByteArray.empty → ∀ x ∈ out, x.1 ≠ s) → i + r.length ≤ 4000 → loadD r i out = (some (out ++ numL r i), 0)
  | [], i, out, _, _, _, _ => by simp [loadD, numL]
  | s :: r, i, out, h1, h2, h3, h4 => by
    have hl : i + 1 + r.length ≤ 4000 := by simp at h4; omega
    have hi : ¬ 4000 ≤ i := by omega
    obtain ⟨p1, p2⟩ := List.pairwise_cons.1 h2
    by_cases hs : s = ByteArray.empty
    · subst hs
      rw [loadD_skip r i out hi, numL, if_pos rfl]
      exact loadD_good r (i + 1) out (fun s hs => h1 s (List.mem_cons_of_mem _ hs)) p2 (fun s hs => h3 s (List.mem_cons_of_mem _ hs)) hl
    · have hn := h1 s List.mem_cons_self hs
      rw [loadD_put s r i out hi hs hn (place_none (h3 s List.mem_cons_self hs)), numL, if_neg hs]
      rw [loadD_good r (i + 1) _ (fun s hs => h1 s (List.mem_cons_of_mem _ hs)) p2 (fun t ht h0 x hx => ?_) hl]
      · simp
      · rcases List.mem_append.1 hx with hx | hx
        · exact h3 t (List.mem_cons_of_mem _ ht) h0 x hx
        · obtain rfl := List.mem_singleton.1 hx
          exact p1 t ht hs
theorem topD_eq {l : List DW} {N : Nat} (h1 : ∀ x ∈ l, x.2.1 ≤ N) (h2 : N = 0 ∨ ∃ x ∈ l, x.2.1 = N) : topD l = N := by
  have hle := topD_le l N (fun i hi => h1 _ (getD_mem l i hi)) l.length (Nat.le_refl _)
  rw [List.take_length] at hle
  have hmax : ∀ (l : List DW) (m : Nat), m ≤ l.foldl (fun m x => max m x.2.1) m ∧ ∀ x ∈ l, x.2.1 ≤ l.foldl (fun m x => max m x.2.1) m := by
    intro l
    induction l with
    | nil => intro m; exact ⟨Nat.le_refl _, fun x hx => by cases hx⟩
    | cons a r ih =>
      intro m
      obtain ⟨i1, i2⟩ := ih (max m a.2.1)
      refine ⟨?_, fun x hx => ?_⟩
      · show m ≤ List.foldl _ (max m a.2.1) r
        omega
      · show x.2.1 ≤ List.foldl _ (max m a.2.1) r
        rcases List.mem_cons.1 hx with rfl | hx
        · omega
        · exact i2 x hx
  rcases h2 with rfl | ⟨x, hx, rfl⟩
  · omega
  · have := (hmax l 0).2 x hx
    unfold topD at hle ⊢
    omega
/-- All names of names that were loaded are they. -/
theorem numL_all (r : List ByteArray) (hq : Uniq (numL r 0)) (hlast : r = [] ∨ r.getD (r.length - 1) default ≠ ByteArray.empty) : allD (numL r 0) (topD (numL r 0)) = r := by
  have ht : topD (numL r 0) = r.length := by
    refine topD_eq (fun x hx => ?_) ?_
    · obtain ⟨j, h1, _, _, h4, _⟩ := (numL_mem r 0 x).1 hx
      omega
    · rcases hlast with rfl | hl
      · exact .inl rfl
      · rcases Nat.eq_zero_or_pos r.length with h0 | h0
        · exact .inl h0
        · exact .inr ⟨(r.getD (r.length - 1) default, r.length, 1), (numL_mem r 0 _).2 ⟨r.length - 1, by omega, rfl, hl, by dsimp only; omega, rfl⟩, rfl⟩
  rw [ht]
  refine List.ext_getElem (by simp [allD]) fun i h1 h2 => ?_
  have e : (allD (numL r 0) r.length)[i] = (nameD (numL r 0) ((i + 1 : Nat) : Int)).1 := by simp [allD]
  have eg : r.getD i default = r[i] := by simp [h2]
  rw [e]
  by_cases hs : r[i] = ByteArray.empty
  · rw [hs]
    unfold nameD
    rcases placeD_spec (numAt ((i + 1 : Nat) : Int)) (numL r 0) with ⟨q1, _⟩ | ⟨j, q1, q2, q3⟩
    · rw [if_pos (by omega)]
    · exfalso
      simp only [numAt, decide_eq_true_eq] at q3
      obtain ⟨k, k1, k2, k3, k4, _⟩ := (numL_mem r 0 _).1 (getD_mem _ j q1)
      obtain rfl : k = i := by omega
      rw [eg, hs] at k2
      exact k3 k2.symm
  · have hin : (r[i], i + 1, 1) ∈ numL r 0 := (numL_mem r 0 _).2 ⟨i, h2, by rw [eg], hs, by dsimp only; omega, rfl⟩
    rw [nameD_in hq hin]
/-- A book's names, loaded. -/
theorem Rel.loads {K : Nat} {ws : WS} {f : ByteArray → Option Nat} {l : List DW} (h : Rel K ws f l) (hK : K ≤ 4000) : loadD (allD l (topD l)) 0 [] = (some (numL (allD l (topD l)) 0), 0) ∧ (Uniq (numL (allD l (topD l)) 0) → allD (numL (allD l (topD l)) 0) (topD (numL (allD l (topD l)) 0)) = allD l (topD l)) := by
  rw [h.all]
  have hnz : ∀ i, i < ws.length → (ws.getD i default).1 ≠ ByteArray.empty → ((ws.getD i default).1, i + 1, (ws.getD i default).2) ∈ l := fun i hi hne => by
    refine (h.mem _).2 ⟨by simp, rfl, Nat.pos_of_ne_zero fun h0 => hne ?_⟩
    rw [h.hole i h0]
    rfl
  have hget : ∀ i, i < ws.length → (ws.map Prod.fst).getD i default = (ws.getD i default).1 := fun i hi => by simp [hi]
  constructor
  · have := loadD_good (ws.map Prod.fst) 0 [] (fun s hs hne => ?_) ?_ (fun s _ _ x hx => (by cases hx)) (by rw [List.length_map]; have := h.len; omega)
    · simpa using this
    · obtain ⟨i, hi, rfl⟩ := List.getElem_of_mem hs
      have hi' : i < ws.length := by simpa using hi
      have e : (ws.map Prod.fst)[i] = (ws.getD i default).1 := by simp [hi']
      rw [e] at hne ⊢
      exact h.good _ (hnz i hi' hne)
    · refine List.pairwise_iff_getElem.2 fun i j hi hj hij hne e => ?_
      have hi' : i < ws.length := by simpa using hi
      have hj' : j < ws.length := by simpa using hj
      have e1 : (ws.map Prod.fst)[i] = (ws.getD i default).1 := by simp [hi']
      have e2 : (ws.map Prod.fst)[j] = (ws.getD j default).1 := by simp [hj']
      rw [e1] at hne e
      rw [e2] at e
      have a1 := hnz i hi' hne
      have a2 := hnz j hj' (by rw [← e]; exact hne)
      have := congrArg (fun x : DW => x.2.1) (uniq_name h.uniq a1 a2 e)
      simp at this
      omega
  · intro hq
    refine numL_all _ hq ?_
    rcases (popT_fix ws).1 h.last with rfl | hl
    · exact .inl rfl
    · right
      have hpos : 0 < ws.length := by
        rcases Nat.eq_zero_or_pos ws.length with h0 | h0
        · have := List.eq_nil_of_length_eq_zero h0
          subst this
          exact absurd hl (by decide)
        · exact h0
      rw [List.length_map, hget _ (by omega)]
      intro e
      have hin : ((ws.getD (ws.length - 1) default).1, ws.length, (ws.getD (ws.length - 1) default).2) ∈ l := (h.mem _).2 ⟨hpos, rfl, hl⟩
      have := h.good _ hin
      dsimp only at this
      rw [e, name_empty] at this
      cases this
/-- A use of a name that no call takes away. -/
theorem step_keeps {N : Nat} {l : List DW} (hq : Uniq l) {s : ByteArray} {n u : Nat} (hin : (s, n, u) ∈ l) (hu : 0 < u) (o : LOp) (ho : ¬ (o.1 = 1 ∧ o.2.1 = (n : Int))) : ∃ u', 0 < u' ∧ (s, n, u') ∈ (stepD N l o).1 := by
  obtain ⟨kd, q, t⟩ := o
  dsimp only at ho
  have hturn : ∀ (y : DW) (more : Int), y ∈ l → (y.2.1 = n → more = 1) → ∃ u', 0 < u' ∧ (s, n, u') ∈ turnD l y.2.1 more := fun y more hy hm => by
    obtain ⟨a, b, c⟩ := y
    by_cases hb : b = n
    · subst hb
      have := uniq_num hq hin hy rfl
      cases this
      refine ⟨((u : Int) + more).toNat, ?_, (mem_turnD hq hin more _).2 (.inr ⟨?_, rfl⟩)⟩
      · rw [hm rfl]; omega
      · rw [hm rfl]; omega
    · exact ⟨u, hu, (mem_turnD hq hy more _).2 (.inl ⟨hin, fun e => hb e.symm⟩)⟩
  by_cases h0 : kd = 0
  · subst h0
    rw [stepD_add]
    rcases addD_cases N l t with ⟨e, _, h⟩ | ⟨x, hx, _, h⟩ | ⟨_, _, _, h⟩
    · rw [h]; exact ⟨u, hu, hin⟩
    · rw [h]; exact hturn x 1 hx fun _ => rfl
    · rw [h]; exact ⟨u, hu, List.mem_append_left _ hin⟩
  · by_cases h1 : kd = 1
    · subst h1
      rw [stepD_drop]
      unfold dropT
      split
      · exact ⟨u, hu, hin⟩
      · rename_i hp
        rcases placeD_spec (numAt q) l with ⟨g1, _⟩ | ⟨j, g1, g2, g3⟩
        · omega
        · simp only [numAt, decide_eq_true_eq] at g3
          have e : q.toNat = (l.getD j default).2.1 := by omega
          dsimp only
          rw [e]
          exact hturn _ (-1) (getD_mem l j g1) fun e2 => absurd ⟨rfl, by omega⟩ ho
    · rw [stepD_no _ _ _ _ _ h0 h1]; exact ⟨u, hu, hin⟩
theorem place_nil (s : ByteArray) : placeD (nameAt s) [] = -1 := rfl
theorem addD_first (s : ByteArray) : (addD 1 [] s = ([], 0, 63)) ∨ addD 1 [] s = ([(s, 1, 1)], 1, 0) := by
  unfold addD
  split
  · exact .inl rfl
  · rw [if_neg (by rw [place_nil]; decide), if_neg (by simp)]
    exact .inr rfl
theorem all_small {K : Nat} {ws : WS} {f : ByteArray → Option Nat} {l : List DW} (h : Rel K ws f l) (hs : ∀ x ∈ l, x.1.size ≤ maxLen) : ∀ s ∈ allD l (topD l), s.size ≤ maxLen := by
  rw [h.all]
  intro s hs'
  obtain ⟨i, hi, rfl⟩ := List.getElem_of_mem hs'
  have hi' : i < ws.length := by simpa using hi
  have e : (ws.map Prod.fst)[i] = (ws.getD i default).1 := by simp [hi']
  rw [e]
  by_cases h0 : (ws.getD i default).2 = 0
  · rw [h.hole i h0]
    decide
  · exact hs ((ws.getD i default).1, i + 1, (ws.getD i default).2) ((h.mem _).2 ⟨by simp, rfl, by dsimp only; omega⟩)
theorem BookL.back {w : World} {B p K : Nat} {ws : WS} {l : List DW} (h : BookL w B p K ws l) (hK : K ≤ 4000) :
    loadD (allD l (topD l)) 0 [] = (some (numL (allD l (topD l)) 0), 0) ∧ (Uniq (numL (allD l (topD l)) 0) → allD (numL (allD l (topD l)) 0) (topD (numL (allD l (topD l)) 0)) = allD l (topD l)) ∧ (∀ s ∈ allD l (topD l), s.size ≤ maxLen) ∧ (allD l (topD l)).length ≤ K := by
  obtain ⟨vw, mb, n, f, h1, h2, _, h4⟩ := h
  obtain ⟨a, b⟩ := h2.loads hK
  exact ⟨a, b, all_small h2 h4, by rw [h2.all, List.length_map]; exact h2.len⟩
set_option maxRecDepth 100000 in
set_option maxHeartbeats 2000000 in
theorem lexBack_any (sv : Value) (os : List LOp) (s : ByteArray) (w : World) (hs : ScriptAt 140737488351232 w w.heap.size sv os) (hz : s.size ≤ maxLen) : Calls Try.prog 8 #[sv, .string s] w fun e w' => e = .returned (.bool true) ∧ Below w.heap.size w w' := by
  have HS := Lib.hid hs
  obtain ⟨⟨sa, sc, rfl, hcells⟩, hsmall⟩ := hs
  obtain ⟨n, hn⟩ : ∃ n, n = os.length := ⟨_, rfl⟩
  have HN := Lib.hid hn
  rw [← hn] at HS hcells ⊢
  have HC := Lib.hid hcells
  have HSM := Lib.hid hsmall
  clear hn hcells hsmall
  by_cases h : n ≤ 300
  · have h2 : ¬ (300 : Int) < (n : Int) := by omega
    go_enter Try.func8, Try.ntmps8
    go_wp2_with fail
    refine (new_L w).mono ?_
    rintro e w1 ⟨p, rfl, H1, hb1⟩
    have H1 := Lib.hid H1
    have HA := Lib.hid (add_L H1.out (by omega) s hz)
    rw [isLeast_unique H1.out.docs.2.2.1 alive_least1] at HA
    rcases addD_first s with hadd | hadd
    · rw [hadd] at HA
      clear hadd
      go_wp2_with fail
      refine HA.out.mono ?_
      rintro e w2 ⟨rfl, _, ht2⟩
      have hb2 := hb1.trans ht2.below
      go_wp2_with fail
      refine (alive_any _).mono ?_
      rintro e w3 ⟨rfl, hb3⟩
      go_wp2_with fail
      go_ret
      exact ⟨rfl, hb2.trans (hb3.mono hb2.size)⟩
    · rw [hadd] at HA
      clear hadd
      go_wp2_with fail
      refine HA.out.mono ?_
      rintro e w2 ⟨rfl, ⟨ws2, H2⟩, ht2⟩
      have H2 : Hid (BookL w2 w.heap.size p 1 ws2 [(s, 1, 1)]) := Lib.hid H2
      have hb2 := hb1.trans ht2.below
      clear hb1 ht2 HA H1
      go_wp2_with fail
      go_loopw [44] (fun i wr => ∃ (k u : Nat) (l : List DW) (ws : WS), k ≤ n ∧ i = .int .i64 (k : Int) ∧ Hid (BookL wr w.heap.size p (1 + k) ws l) ∧ Hid (0 < u ∧ (s, 1, u) ∈ l) ∧ Hid (Below w.heap.size w wr)) (fun i _ => n - (intOf i).toNat)
      case atStart => exact ⟨0, 1, [(s, 1, 1)], ws2, Nat.zero_le _, rfl, H2, Lib.hid ⟨Nat.one_pos, List.mem_singleton.2 rfl⟩, Lib.hid hb2⟩
      case round =>
        clear H2 hb2
        obtain ⟨k, u, l, ws, hk, rfl, HB, HI, Hb⟩ := hrel
        by_cases hlt : k < n
        · obtain ⟨b, off, rfl, hbB, hcc⟩ := HC.out (by omega)
          obtain ⟨c1, c2, c3⟩ := hcc k hlt
          have hosz := HSM.out _ (getD_mem os k (by rw [← HN.out]; exact hlt))
          obtain ⟨o, ho⟩ : ∃ o, o = os.getD k default := ⟨_, rfl⟩
          rw [← ho] at c1 c2 c3 hosz
          have c1 := (Hb.out.cell (by exact hbB)).trans c1
          have c2 := (Hb.out.cell (by exact hbB)).trans c2
          have c3 := (Hb.out.cell (by exact hbB)).trans c3
          have hBwr : w.heap.size ≤ wr.heap.size := HB.out.lt.2.2
          have hbx : Below wr.heap.size wr (wr.alloc (.cells #[.int .i64 o.1, .int .i64 o.2.1, .string o.2.2] 51)) := (Below.refl _ _).alloc (Nat.le_refl _) _
          have HBa := Lib.hid (HB.out.below hbx)
          clear ho hcc
          obtain ⟨kd, q, t⟩ := o
          dsimp only at c1 c2 c3 hosz hbx HBa
          by_cases hk1 : kd = 1
          · subst hk1
            by_cases hq1 : q = 1
            · subst hq1
              obtain ⟨wv, hwv⟩ : ∃ wv, wv = wr.alloc (.cells #[.int .i64 1, .int .i64 1, .string t] 51) := ⟨_, rfl⟩
              obtain ⟨lv, hlv⟩ : ∃ lv, lv = l := ⟨_, rfl⟩
              obtain ⟨uv, huv⟩ : ∃ uv, uv = u := ⟨_, rfl⟩
              obtain ⟨wsv, hwsv⟩ : ∃ wsv, wsv = ws := ⟨_, rfl⟩
              have HBv := HBa
              have HIv := HI
              have Hbv := Lib.hid (Hb.out.trans (hbx.mono hBwr))
              rw [← hwv] at HBv Hbv
              rw [← hlv] at HBv HIv
              rw [← huv] at HIv
              rw [← hwsv] at HBv
              have HWV := Lib.hid hwv
              clear hwv hlv huv hwsv HBa HB HI Hb hbx
              have HM := Lib.hid (nameD_in HBv.out.docs.2.2.2.1 HIv.out.2)
              have HF := Lib.hid (findD_in HBv.out.docs.2.2.2.1 HIv.out.2)
              have HNM := Lib.hid (name_L HBv.out (by omega) 1)
              rw [show nameD lv 1 = (s, true) from HM.out] at HNM
              have HFN := Lib.hid (fun w' (h' : Below wv.heap.size wv w') => find_L (HBv.out.below h') s hz)
              rw [show findD lv s = (1, true) from HF.out] at HFN
              go_wp2_with fail
              rw [← HWV.out]
              refine HNM.out.mono ?_
              rintro e w5 ⟨rfl, hb5⟩
              have HB5 := Lib.hid (HBv.out.below hb5)
              have hb6 := Lib.hid (Hbv.out.trans (hb5.mono Hbv.out.size))
              go_wp2_with fail
              refine (HFN.out _ hb5).mono ?_
              rintro e w6 ⟨rfl, rfl⟩
              clear hb5 HBv HNM HFN
              go_wp2_with fail
              go_roundw
              case rel => exact ⟨k + 1, uv, lv, wsv, by omega, by go_num, Lib.hid (HB5.out.mono (by omega)), HIv, hb6⟩
              case measure => simp [intOf]; omega
            · have hq2 : (q == 1) = false := by simpa using hq1
              have HST := Lib.hid (step_keeps (N := freeW ws) HBa.out.docs.2.2.2.1 HI.out.2 HI.out.1 (1, q, t) fun e => hq1 e.2)
              have HD := Lib.hid (does_L HBa.out (by omega) (1, q, t) (Nat.le_trans hosz (by decide)))
              change Hid (Calls Try.prog 24 #[_, .agg #[.int .i64 1, .int .i64 q, .string t]] _ _) at HD
              generalize stepD (freeW ws) l (1, q, t) = r at *
              clear hq1
              go_wp2_with fail
              refine HD.out.mono ?_
              rintro e wv ⟨rfl, ⟨wsv, HBv⟩, htv⟩
              have HBv := Lib.hid HBv
              have Hbv := Lib.hid ((Hb.out.trans (hbx.mono hBwr)).trans htv.below)
              obtain ⟨uv, huv⟩ := HST.out
              have HIv := Lib.hid huv
              obtain ⟨lv, hlv⟩ : ∃ lv, lv = r.1 := ⟨_, rfl⟩
              rw [← hlv] at HBv HIv
              clear htv hbx HBa HB HI Hb c1 c2 c3 HD HST huv hlv
              have HM := Lib.hid (nameD_in HBv.out.docs.2.2.2.1 HIv.out.2)
              have HF := Lib.hid (findD_in HBv.out.docs.2.2.2.1 HIv.out.2)
              have HNM := Lib.hid (name_L HBv.out (by omega) 1)
              rw [show nameD lv 1 = (s, true) from HM.out] at HNM
              have HFN := Lib.hid (fun w' (h' : Below wv.heap.size wv w') => find_L (HBv.out.below h') s hz)
              rw [show findD lv s = (1, true) from HF.out] at HFN
              go_wp2_with fail
              refine HNM.out.mono ?_
              rintro e w5 ⟨rfl, hb5⟩
              have HB5 := Lib.hid (HBv.out.below hb5)
              have hb6 := Lib.hid (Hbv.out.trans (hb5.mono Hbv.out.size))
              go_wp2_with fail
              refine (HFN.out _ hb5).mono ?_
              rintro e w6 ⟨rfl, rfl⟩
              clear hb5 HBv HNM HFN
              go_wp2_with fail
              go_roundw
              case rel => exact ⟨k + 1, uv, lv, wsv, by omega, by go_num, Lib.hid (HB5.out.mono (by omega)), HIv, hb6⟩
              case measure => simp [intOf]; omega
          · have hk2 : (kd == 1) = false := by simpa using hk1
            have HST := Lib.hid (step_keeps (N := freeW ws) HBa.out.docs.2.2.2.1 HI.out.2 HI.out.1 (kd, q, t) fun e => hk1 e.1)
            have HD := Lib.hid (does_L HBa.out (by omega) (kd, q, t) (Nat.le_trans hosz (by decide)))
            change Hid (Calls Try.prog 24 #[_, .agg #[.int .i64 kd, .int .i64 q, .string t]] _ _) at HD
            generalize stepD (freeW ws) l (kd, q, t) = r at *
            clear hk1
            go_wp2_with fail
            refine HD.out.mono ?_
            rintro e wv ⟨rfl, ⟨wsv, HBv⟩, htv⟩
            have HBv := Lib.hid HBv
            have Hbv := Lib.hid ((Hb.out.trans (hbx.mono hBwr)).trans htv.below)
            obtain ⟨uv, huv⟩ := HST.out
            have HIv := Lib.hid huv
            obtain ⟨lv, hlv⟩ : ∃ lv, lv = r.1 := ⟨_, rfl⟩
            rw [← hlv] at HBv HIv
            clear htv hbx HBa HB HI Hb c1 c2 c3 HD HST huv hlv
            have HM := Lib.hid (nameD_in HBv.out.docs.2.2.2.1 HIv.out.2)
            have HF := Lib.hid (findD_in HBv.out.docs.2.2.2.1 HIv.out.2)
            have HNM := Lib.hid (name_L HBv.out (by omega) 1)
            rw [show nameD lv 1 = (s, true) from HM.out] at HNM
            have HFN := Lib.hid (fun w' (h' : Below wv.heap.size wv w') => find_L (HBv.out.below h') s hz)
            rw [show findD lv s = (1, true) from HF.out] at HFN
            go_wp2_with fail
            refine HNM.out.mono ?_
            rintro e w5 ⟨rfl, hb5⟩
            have HB5 := Lib.hid (HBv.out.below hb5)
            have hb6 := Lib.hid (Hbv.out.trans (hb5.mono Hbv.out.size))
            go_wp2_with fail
            refine (HFN.out _ hb5).mono ?_
            rintro e w6 ⟨rfl, rfl⟩
            clear hb5 HBv HNM HFN
            go_wp2_with fail
            go_roundw
            case rel => exact ⟨k + 1, uv, lv, wsv, by omega, by go_num, Lib.hid (HB5.out.mono (by omega)), HIv, hb6⟩
            case measure => simp [intOf]; omega
        · obtain rfl : k = n := by omega
          obtain ⟨a1, a2, a3, a4⟩ := HB.out.back (by omega)
          have HAL := Lib.hid (all_L HB.out (by omega))
          have HA1 := Lib.hid a1
          have HA2 := Lib.hid a2
          have HA3 := Lib.hid a3
          have HTB := Lib.hid HB.out
          clear a1 a2 a3
          obtain ⟨xs, hxs⟩ : ∃ xs, xs = allD l (topD l) := ⟨_, rfl⟩
          rw [← hxs] at HAL HA1 HA2 HA3 a4
          have HXS := Lib.hid hxs
          clear hxs
          go_wp2_with fail
          refine HAL.out.mono ?_
          rintro e w3 ⟨v, rfl, HS3, hb3⟩
          have HS3 := Lib.hid HS3
          obtain ⟨va, vc, rfl⟩ := OwnS.len HS3.out
          have HB3 := Lib.hid (HB.out.below hb3)
          have hb4 := Lib.hid (Hb.out.trans (hb3.mono Hb.out.size))
          have HLD := Lib.hid (load_L (TextsAt.of HS3.out HA3.out) (by omega))
          rw [HA1.out] at HLD
          clear hb3 HAL Hb HB HTB
          go_wp2_with fail
          refine HLD.out.mono ?_
          rintro e w4 ⟨hb5, ⟨hR, _⟩ | ⟨pc, wsc, lc, hR, rfl, HBc⟩⟩
          · cases hR
          have HBc := Lib.hid HBc
          obtain ⟨lc, rfl⟩ : ∃ l', l' = lc := ⟨_, rfl⟩
          have hlc : numL xs 0 = lc := by simpa using hR
          have hqc := HBc.out.docs.2.2.2.1
          rw [← hlc] at hqc
          have hall := HA2.out hqc
          rw [hlc] at hall
          have HALc := Lib.hid hall
          have HB4 := Lib.hid (HB3.out.below hb5)
          have hb6 := Lib.hid (hb4.out.trans (hb5.mono hb4.out.size))
          clear hb5 HB3 hb4 hqc hall HLD
          go_wp2_with fail
          refine (alive_any _).mono ?_
          rintro e w5 ⟨rfl, hb7⟩
          have HBc5 := Lib.hid (HBc.out.below hb7)
          have HB5 := Lib.hid (HB4.out.below hb7)
          have hb8 := Lib.hid (hb6.out.trans (hb7.mono hb6.out.size))
          have HC1 := Lib.hid (all_L HBc5.out (by omega))
          rw [HALc.out] at HC1
          clear hb7 hb6 HB4 HBc
          go_wp2_with fail
          refine HC1.out.mono ?_
          rintro e w6 ⟨v6, rfl, HS6, hb9⟩
          have HS6 := Lib.hid HS6
          obtain ⟨va6, vc6, rfl⟩ := OwnS.len HS6.out
          have HB6 := Lib.hid (HB5.out.below hb9)
          have hb10 := Lib.hid (hb8.out.trans (hb9.mono hb8.out.size))
          have HC2 := Lib.hid (all_L HB6.out (by omega))
          rw [← HXS.out] at HC2
          clear hb9 hb8 HB5 HBc5 HC1
          go_wp2_with fail
          refine HC2.out.mono ?_
          rintro e w7 ⟨v7, rfl, HS7, hb11⟩
          have HS7 := Lib.hid HS7
          obtain ⟨va7, vc7, rfl⟩ := OwnS.len HS7.out
          have HS67 := Lib.hid (HS6.out.below hb11)
          have hb12 := Lib.hid (hb10.out.trans (hb11.mono hb10.out.size))
          have HSM := Lib.hid (same_any _ _ _ _ _ _ HS67.out HS7.out (by omega))
          clear hb11 hb10 HB6 HC2
          go_wp2_with fail
          refine HSM.out.mono ?_
          rintro e w8 ⟨rfl, hb13⟩
          go_wp2_with fail
          go_ret
          exact ⟨rfl, hb12.out.trans (hb13.mono hb12.out.size)⟩
  · have h2 : (300 : Int) < (n : Int) := by omega
    go_enter Try.func8, Try.ntmps8
    go_wp2_with fail
    refine (new_L w).mono ?_
    rintro e w1 ⟨p, rfl, H1, hb1⟩
    have H1 := Lib.hid H1
    go_wp2_with fail
    refine (alive_any _).mono ?_
    rintro e w2 ⟨rfl, hb2⟩
    go_wp2_with fail
    go_ret
    exact ⟨rfl, hb1.trans (hb2.mono hb1.size)⟩
end Go.Proofs.Ytoflicfghonhcaa
