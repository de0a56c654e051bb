/- LAYER 15 (lexicon): all names; has a book these words? -/
import Derived.Test.YtoflicfghonhcaaLexX
namespace Go.Proofs.Ytoflicfghonhcaa
open Go.RowKit Go.WideMaps Go.Maps
set_option linter.unusedVariables false
def strCells (xs : List ByteArray) : List Value := xs.map Value.string
def StrsAt (w : World) (B : Nat) (v : Value) (xs : List ByteArray) : Prop := OwnS w B 9 1 v xs.length (strCells xs)
theorem StrsAt.below {w w' : World} {B : Nat} {v : Value} {xs : List ByteArray} (h : StrsAt w B v xs) (hb : Below w.heap.size w w') : StrsAt w' B v xs := OwnS.below h hb
theorem StrsAt.nil (w : World) (B : Nat) : StrsAt w B (.slice none 0 0) [] := OwnS.nil _ _ _ _
theorem StrsAt.cells {w : World} {B g cap : Nat} {xs : List ByteArray} (h : StrsAt w B (.slice (some ⟨g, 0, none⟩) xs.length cap) xs) (i : Nat) (hi : i < xs.length) : w.cell? ⟨g, i, none⟩ = some (.string (xs.getD i ByteArray.empty)) := by
  have c1 := OwnS.cellAt h i (by omega)
  rw [c1]
  simp [strCells, hi]
theorem infoStr : (Try.prog.info? 9).map (fun i => (i.zero, i.size, i.bytes)) = some (some (.string ByteArray.empty), 1, 16) := by kernel_rfl
theorem one_new (w : World) (x : Value) (e : TypeId) (j : Nat) (u : Value) (h : [x][j]? = some u) : (w.alloc (.cells #[x] e (0, 0))).cell? ((⟨w.heap.size, 0, none⟩ : Addr).add j) = some u := by
  match j, h with
  | 0, h => simpa [go_sem] using h
theorem strPush {w : World} {B : Nat} {v : Value} {xs : List ByteArray} {s : ByteArray} (h : OwnS w B 9 1 v (xs.length + 1) (strCells xs ++ [.string s])) : StrsAt w B v (xs ++ [s]) := by
  unfold StrsAt
  rw [List.length_append]
  have e : strCells (xs ++ [s]) = strCells xs ++ [.string s] := by simp [strCells]
  rw [e]
  exact h
set_option maxRecDepth 100000 in
set_option maxHeartbeats 1000000 in
theorem all_any (B p : Nat) (vw : Value) (mb n : Nat) (ws : WS) (f : ByteArray → Option Nat) (cnt : Nat) (w : World) (h : BookAt w B p vw mb n ws f cnt) (hw : ws.length ≤ 100000) :
    Calls Try.prog 23 #[.pointer (some ⟨p, 0, none⟩)] w fun e w' => ∃ v, e = .returned v ∧ StrsAt w' w.heap.size v (ws.map Prod.fst) ∧ Below w.heap.size w w' := by
  obtain ⟨k0, hk1, hk2, hk3, hk4⟩ := info_parts infoStr
  obtain ⟨c0, c1⟩ := h.cell0
  obtain ⟨k, hk⟩ : ∃ k, k = ws.length := ⟨_, rfl⟩
  have ho := h.own
  rw [← hk] at ho hw
  obtain ⟨a, c, rfl⟩ := ho.len
  have HK := Lib.hid hk
  have HO := Lib.hid ho
  clear h hk
  go_enter Try.func23, Try.ntmps23
  go_wp2_with fail
  go_loopw [3, 11] (fun o i wr => ∃ (j : Nat), j ≤ k ∧ i = .int .i64 (j : Int) ∧ Hid (StrsAt wr w.heap.size o ((ws.map Prod.fst).take j)) ∧ Below w.heap.size w wr) (fun _ i _ => k - (intOf i).toNat)
  case atStart => exact ⟨0, Nat.zero_le _, rfl, Lib.hid (StrsAt.nil _ _), Below.refl _ _⟩
  case round =>
    obtain ⟨j, hj, rfl, HS, hb⟩ := hrel
    have hml : (ws.map Prod.fst).length = k := by rw [List.length_map, HK.out]
    have htl : ((ws.map Prod.fst).take j).length = j := by rw [List.length_take, hml]; omega
    by_cases hlt : j < k
    · obtain ⟨g, cp, hv, _, hg, _, _⟩ := ho.shape (by omega)
      cases hv
      obtain ⟨e1, e2⟩ := wordCells_at ws j (by rw [← HK.out]; exact hlt)
      have hoo := ho.below hb
      have d1 := hoo.cellAt (j * 2) (by omega)
      have d2 := hoo.cellAt (j * 2 + 1) (by omega)
      rw [e1] at d1
      rw [e2] at d2
      have hnext : Hid ((ws.map Prod.fst).take (j + 1) = (ws.map Prod.fst).take j ++ [(ws.getD j default).1]) := by
        rw [List.take_add_one]
        have : (ws.map Prod.fst)[j]? = some (ws.getD j default).1 := by
          have hj2 : j < ws.length := by rw [← HK.out]; exact hlt
          simp [hj2]
        rw [this]
        exact Lib.hid rfl
      have hoS := HS.out
      unfold StrsAt at hoS
      rw [htl] at hoS
      obtain ⟨va, vc, rfl⟩ := hoS.len
      generalize (ws.getD j default).1 = x at *
      generalize (ws.getD j default).2 = y at *
      clear hoo e1 e2
      have hsz := hb.size
      go_wp2_with (at_builtin; refine wpList_append_ownS _ rfl _ _ 47 rfl w.heap.size 9 k0 (.string ByteArray.empty) 1 16 Try.underlying47 hk1 hk2 hk3 hk4 rfl (by decide) _ _ _ rfl ((hoS.alloc _).alloc _) ⟨wr.heap.size + 1, 0, none⟩ 1 1 [.string x] rfl rfl ?c1 ?c2 ?c3 ?c4 ?c5 ?_)
      case c1 => intro jj u hu; have := one_new (wr.alloc (.cells #[.string x, .int .i64 (y : Int)] 65)) (.string x) 9 jj u hu; simpa using this
      case c2 => intro u hu; simp at hu; rcases hu with rfl; rfl
      case c3 => unfold maxLen; omega
      case c4 => omega
      case c5 => simp; omega
      intro v1 wa hown1 hgrow1
      have HO1 := Lib.hid (strPush (xs := (ws.map Prod.fst).take j) (by rw [htl]; exact hown1))
      rw [← hnext.out] at HO1
      have hb1 := below_grown ((hb.alloc hsz _).alloc (by simp; omega) _) ((hoS.alloc _).alloc _) hgrow1 (by simp; omega) (Nat.le_refl _)
      clear hown1 hgrow1 hoS HS
      go_wp2_with fail
      go_roundw
      case rel => exact ⟨j + 1, by omega, by go_num, HO1, hb1⟩
      case measure => simp [intOf]; omega
    · obtain rfl : j = k := by omega
      go_wp2_with fail
      go_ret
      refine ⟨_, rfl, ?_, hb⟩
      have := HS.out
      rw [List.take_of_length_le (by omega)] at this
      exact this
def topD (l : List DW) : Nat := l.foldl (fun m x => max m x.2.1) 0
def allD (l : List DW) (t : Nat) : List ByteArray := (List.range t).map (fun i => (nameD l ((i + 1 : Nat) : Int)).1)
theorem allD_succ (l : List DW) (t : Nat) : allD l (t + 1) = allD l t ++ [(nameD l ((t + 1 : Nat) : Int)).1] := by simp [allD, List.range_succ]
theorem allD_len (l : List DW) (t : Nat) : (allD l t).length = t := by simp [allD]
theorem topD_le (l : List DW) (K : Nat) (h : ∀ i, i < l.length → (l.getD i default).2.1 ≤ K) : ∀ j, j ≤ l.length → topD (l.take j) ≤ K := by
  intro j
  induction j with
  | zero => intro _; simp [topD]
  | succ j ih =>
    intro hj
    have e : l.take (j + 1) = l.take j ++ [l.getD j default] := by
      rw [List.take_add_one]
      have : l[j]? = some (l.getD j default) := by simp [show j < l.length by omega]
      rw [this]; rfl
    have := h j (by omega)
    rw [e]
    unfold topD at ih ⊢
    rw [List.foldl_append]
    show max _ _ ≤ K
    have := ih (by omega)
    omega
theorem topD_step (l : List DW) (j : Nat) (hj : j < l.length) : topD (l.take (j + 1)) = max (topD (l.take j)) (l.getD j default).2.1 := by
  have e : l.take (j + 1) = l.take j ++ [l.getD j default] := by
    rw [List.take_add_one]
    have : l[j]? = some (l.getD j default) := by simp [hj]
    rw [this]; rfl
  rw [e]
  unfold topD
  rw [List.foldl_append]
  rfl
set_option maxRecDepth 100000 in
set_option maxHeartbeats 1000000 in
theorem rlall_any (B : Nat) (v : Value) (l : List DW) (w : World) (h : DocAt w B v l) (hw : l.length ≤ 100000) (hn : ∀ i, i < l.length → (l.getD i default).2.1 ≤ 100000) :
    Calls Try.prog 35 #[v] w fun e w' => ∃ v', e = .returned v' ∧ StrsAt w' w.heap.size v' (allD l (topD l)) ∧ Below w.heap.size w w' := by
  obtain ⟨k0, hk1, hk2, hk3, hk4⟩ := info_parts infoStr
  obtain ⟨k, hk⟩ : ∃ k, k = l.length := ⟨_, rfl⟩
  have HTL := Lib.hid (topD_le l 100000 hn)
  have HTS := Lib.hid (topD_step l)
  obtain ⟨tp, htp⟩ : ∃ tp, tp = topD l := ⟨_, rfl⟩
  have htb := topD_le l 100000 hn l.length (Nat.le_refl _)
  rw [List.take_length, ← htp] at htb
  rw [← htp]
  have HTP := Lib.hid htp
  have HRN := Lib.hid (fun w' (h' : DocAt w' B v l) q => rbname_any B v l w' h' (by omega) q)
  have HH := Lib.hid h
  obtain ⟨a, c, rfl⟩ := OwnS.len h
  have HK := Lib.hid hk
  rw [← hk] at hw
  clear h hn htp
  rw [← hk] at HTL HTS HRN HH ⊢
  clear hk
  go_enter Try.func35, Try.ntmps35
  go_wp2_with fail
  go_loopw [3, 4] (fun m i wr => ∃ (j : Nat), j ≤ k ∧ m = .int .i64 ((topD (l.take j) : Nat) : Int) ∧ i = .int .i64 (j : Int) ∧ wr = w) (fun _ i _ => k - (intOf i).toNat)
  case atStart => exact ⟨0, Nat.zero_le _, rfl, rfl, rfl⟩
  case round =>
    obtain ⟨j, hj, rfl, rfl, rfl⟩ := hrel
    by_cases hlt : j < k
    · have hd := HH.out
      rw [HK.out] at hd
      obtain ⟨g, cap, hv, _⟩ := OwnS.shape hd (by rw [← HK.out]; omega)
      cases hv
      obtain ⟨_, d1, _⟩ := hd.cells j (by rw [← HK.out]; exact hlt)
      have HST := Lib.hid (HTS.out j hlt)
      have hl1 := HTL.out j (by omega)
      generalize topD (l.take j) = m at *
      generalize (l.getD j default).2.1 = q at *
      clear hd
      go_wp2_with fail
      go_roundw
      case rel =>
        refine ⟨j + 1, by omega, ?_, by go_num, trivial⟩
        rw [HST.out]
        split
        · rw [Nat.max_eq_right (by omega)]
        · rw [Nat.max_eq_left (by omega)]
      case measure => simp [intOf]; omega
    · obtain rfl : j = k := by omega
      rw [HK.out, List.take_length, ← HTP.out]
      rw [← HK.out]
      clear HTL HTS
      go_wp2_with fail
      obtain ⟨wo, rfl⟩ : ∃ wo : World, wo = wr := ⟨_, rfl⟩
      go_loopw [5, 6] (fun o i wr => ∃ (n : Nat), n ≤ tp ∧ i = .int .i64 ((n + 1 : Nat) : Int) ∧ Hid (StrsAt wr wo.heap.size o (allD l n)) ∧ Below wo.heap.size wo wr) (fun _ i _ => tp + 1 - (intOf i).toNat)
      case atStart => exact ⟨0, Nat.zero_le _, rfl, Lib.hid (StrsAt.nil _ _), Below.refl _ _⟩
      case round =>
        obtain ⟨n, hn, rfl, HS, hb⟩ := hrel
        have hl := allD_len l n
        by_cases hlt : n < tp
        · have HC := Lib.hid (HRN.out wr (HH.out.below hb) ((n + 1 : Nat) : Int))
          have hnext : Hid (allD l (n + 1) = allD l n ++ [(nameD l ((n + 1 : Nat) : Int)).1]) := Lib.hid (allD_succ l n)
          have hoS := HS.out
          unfold StrsAt at hoS
          rw [hl] at hoS
          obtain ⟨va, vc, rfl⟩ := hoS.len
          generalize nameD l ((n + 1 : Nat) : Int) = x at *
          have hsz := hb.size
          have z1 : ((n + 1 : Nat) : Int) ≤ (tp : Int) := by omega
          go_wp2_with fail
          refine HC.out.mono ?_
          rintro e w1 ⟨rfl, rfl⟩
          go_wp2_with (at_builtin; refine wpList_append_ownS _ rfl _ _ 47 rfl wo.heap.size 9 k0 (.string ByteArray.empty) 1 16 Try.underlying47 hk1 hk2 hk3 hk4 rfl (by decide) _ _ _ rfl (hoS.alloc _) ⟨w1.heap.size, 0, none⟩ 1 1 [.string x.1] rfl rfl ?c1 ?c2 ?c3 ?c4 ?c5 ?_)
          case c1 => intro jj u hu; exact one_new w1 (.string x.1) 9 jj u hu
          case c2 => intro u hu; simp at hu; rcases hu with rfl; rfl
          case c3 => unfold maxLen; omega
          case c4 => omega
          case c5 => simp; omega
          intro v1 wa hown1 hgrow1
          have HO1 := Lib.hid (strPush (xs := allD l n) (by rw [hl]; exact hown1))
          rw [← hnext.out] at HO1
          have hb1 := below_grown (hb.alloc hsz _) (hoS.alloc _) hgrow1 (by simp; omega) (Nat.le_refl _)
          clear hown1 hgrow1 hoS HS
          go_wp2_with fail
          go_roundw
          case rel => exact ⟨n + 1, by omega, by go_num, HO1, hb1⟩
          case measure => simp [intOf]; omega
        · obtain rfl : n = tp := by omega
          have z1 : ¬ ((n + 1 : Nat) : Int) ≤ (n : Int) := by omega
          go_wp2_with fail
          go_ret
          exact ⟨_, rfl, HS.out, hb⟩
set_option maxRecDepth 100000 in
set_option maxHeartbeats 1000000 in
theorem same_any (B1 B2 : Nat) (va vb : Value) (xs : List ByteArray) (w : World) (ha : StrsAt w B1 va xs) (hb : StrsAt w B2 vb xs) (hw : xs.length ≤ 1000000) :
    Calls Try.prog 26 #[va, vb] w fun e w' => e = .returned (.bool true) ∧ Below w.heap.size w w' := by
  obtain ⟨k, hk⟩ : ∃ k, k = xs.length := ⟨_, rfl⟩
  have HA := Lib.hid ha
  have HB := Lib.hid hb
  obtain ⟨a, ca, rfl⟩ := OwnS.len ha
  obtain ⟨b, cb, rfl⟩ := OwnS.len hb
  have HK := Lib.hid hk
  rw [← hk] at hw HA HB ⊢
  clear ha hb hk
  go_enter Try.func26, Try.ntmps26
  go_wp2_with fail
  go_loopw [5] (fun i wr => ∃ n : Nat, n ≤ k ∧ i = .int .i64 (n : Int) ∧ Below w.heap.size w wr) (fun i _ => k - (intOf i).toNat)
  case atStart => exact ⟨0, Nat.zero_le _, rfl, Below.refl _ _⟩
  case round =>
    obtain ⟨n, hn, rfl, hb⟩ := hrel
    by_cases hlt : n < k
    · have h1 := HA.out.below hb
      have h2 := HB.out.below hb
      rw [HK.out] at h1 h2
      obtain ⟨g1, _, e1, _⟩ := OwnS.shape h1 (by rw [← HK.out]; omega)
      obtain ⟨g2, _, e2, _⟩ := OwnS.shape h2 (by rw [← HK.out]; omega)
      cases e1
      cases e2
      have d1 := h1.cells n (by rw [← HK.out]; exact hlt)
      have d2 := h2.cells n (by rw [← HK.out]; exact hlt)
      generalize xs.getD n ByteArray.empty = x at *
      clear h1 h2
      go_wp2_with fail
      go_quiet (fail)
      go_wp2_with fail
      go_roundw
      case rel => exact ⟨n + 1, by omega, by go_num, below_drewN hb _⟩
      case measure => simp [intOf]; omega
    · obtain rfl : n = k := by omega
      go_wp2_with fail
      go_ret
      exact ⟨rfl, hb⟩
theorem Rel.top {K : Nat} {ws : WS} {f : ByteArray → Option Nat} {l : List DW} (h : Rel K ws f l) : topD l = ws.length := by
  have hle : ∀ j, j ≤ l.length → topD (l.take j) ≤ ws.length := topD_le l _ fun i hi => by
    have := h.lt (getD_mem l i hi)
    have := ((h.mem _).1 (getD_mem l i hi)).1
    omega
  have h1 := hle l.length (Nat.le_refl _)
  rw [List.take_length] at h1
  refine Nat.le_antisymm h1 ?_
  rcases (popT_fix ws).1 h.last with rfl | hl
  · exact Nat.zero_le _
  · have hpos : 0 < ws.length := by
      rcases Nat.eq_zero_or_pos ws.length with h0 | h0
      · have := List.eq_nil_of_length_eq_zero h0
        subst this
        exact absurd hl (by decide)
      · exact h0
    have hin : ((ws.getD (ws.length - 1) default).1, ws.length, (ws.getD (ws.length - 1) default).2) ∈ l := (h.mem _).2 ⟨hpos, rfl, hl⟩
    have hmax : ∀ (l : List DW) (m : Nat), m ≤ l.foldl (fun m x => max m x.2.1) m ∧ ∀ x ∈ l, x.2.1 ≤ l.foldl (fun m x => max m x.2.1) m := by
      intro l
      induction l with
      | nil => intro m; exact ⟨Nat.le_refl _, fun x hx => by cases hx⟩
      | cons a r ih =>
        intro m
        obtain ⟨i1, i2⟩ := ih (max m a.2.1)
        refine ⟨?_, fun x hx => ?_⟩
        · show m ≤ List.foldl _ (max m a.2.1) r
          omega
        · show x.2.1 ≤ List.foldl _ (max m a.2.1) r
          rcases List.mem_cons.1 hx with rfl | hx
          · omega
          · exact i2 x hx
    exact (hmax l 0).2 _ hin
theorem Rel.all {K : Nat} {ws : WS} {f : ByteArray → Option Nat} {l : List DW} (h : Rel K ws f l) : allD l (topD l) = ws.map Prod.fst := by
  rw [h.top]
  refine List.ext_getElem (by simp [allD]) fun i h1 h2 => ?_
  have hi : i < ws.length := by simpa using h2
  have e : (allD l ws.length)[i] = (nameD l ((i + 1 : Nat) : Int)).1 := by simp [allD]
  rw [e, name_at h]
  unfold atW
  rw [if_neg (by omega), show ((i + 1 : Nat) : Int).toNat - 1 = i by omega]
  simp [hi]
theorem nameD_in {l : List DW} (hq : Uniq l) {x : DW} (hx : x ∈ l) : nameD l (x.2.1 : Int) = (x.1, true) := by
  rcases placeD_spec (numAt (x.2.1 : Int)) l with ⟨_, h2⟩ | ⟨j, h1, h2, h3⟩
  · obtain ⟨j, hj, e⟩ := List.getElem_of_mem hx
    have := h2 j hj
    have e2 : l.getD j default = x := by rw [← e]; simp [hj]
    rw [e2] at this
    simp [numAt] at this
  · simp only [numAt, decide_eq_true_eq] at h3
    have e : l.getD j default = x := uniq_num hq (getD_mem l j h1) hx (by omega)
    unfold nameD
    rw [h2, if_neg (by omega), Int.toNat_natCast, e]
theorem usesD_in {l : List DW} (hq : Uniq l) {x : DW} (hx : x ∈ l) : usesD l (x.2.1 : Int) = (x.2.2 : Int) := by
  rcases placeD_spec (numAt (x.2.1 : Int)) l with ⟨_, h2⟩ | ⟨j, h1, h2, h3⟩
  · obtain ⟨j, hj, e⟩ := List.getElem_of_mem hx
    have := h2 j hj
    have e2 : l.getD j default = x := by rw [← e]; simp [hj]
    rw [e2] at this
    simp [numAt] at this
  · simp only [numAt, decide_eq_true_eq] at h3
    have e : l.getD j default = x := uniq_num hq (getD_mem l j h1) hx (by omega)
    unfold usesD
    rw [h2, if_neg (by omega), Int.toNat_natCast, e]
theorem findD_in {l : List DW} (hq : Uniq l) {x : DW} (hx : x ∈ l) : findD l x.1 = ((x.2.1 : Int), true) := by
  rcases placeD_spec (nameAt x.1) l with ⟨_, h2⟩ | ⟨j, h1, h2, h3⟩
  · obtain ⟨j, hj, e⟩ := List.getElem_of_mem hx
    have := h2 j hj
    have e2 : l.getD j default = x := by rw [← e]; simp [hj]
    rw [e2] at this
    simp [nameAt] at this
  · simp only [nameAt, decide_eq_true_eq] at h3
    have e : l.getD j default = x := uniq_name hq (getD_mem l j h1) hx h3
    unfold findD
    rw [h2, if_neg (by omega), Int.toNat_natCast, e]
theorem all_L {w : World} {B p K : Nat} {ws : WS} {l : List DW} (h : BookL w B p K ws l) (hK : K ≤ 50000) :
    Calls Try.prog 23 #[.pointer (some ⟨p, 0, none⟩)] w fun e w' => ∃ v, e = .returned v ∧ StrsAt w' w.heap.size v (allD l (topD l)) ∧ Below w.heap.size w w' := by
  obtain ⟨vw, mb, n, f, h1, h2, _⟩ := h
  rw [h2.all]
  exact all_any _ _ _ _ _ _ _ _ _ h1 (by have := h2.len; omega)
theorem rall_L {w : World} {B p K : Nat} {ws : WS} {l : List DW} {v : Value} (h : BookL w B p K ws l) (hd : DocAt w 0 v l) (hK : K ≤ 50000) :
    Calls Try.prog 35 #[v] w fun e w' => ∃ v', e = .returned v' ∧ StrsAt w' w.heap.size v' (allD l (topD l)) ∧ Below w.heap.size w w' := by
  obtain ⟨vw, mb, n, f, h1, h2, _⟩ := h
  refine rlall_any 0 v l w hd (by have := h2.size; omega) fun i hi => ?_
  have a1 := h2.lt (getD_mem l i hi)
  have a2 := h2.len
  omega
theorem BookL.topLen {w : World} {B p K : Nat} {ws : WS} {l : List DW} (h : BookL w B p K ws l) : topD l ≤ K := by
  obtain ⟨vw, mb, n, f, h1, h2, _⟩ := h
  rw [h2.top]
  exact h2.len
theorem BookL.small {w : World} {B p K : Nat} {ws : WS} {l : List DW} (h : BookL w B p K ws l) : ∀ x ∈ l, x.1.size ≤ maxLen := by
  obtain ⟨vw, mb, n, f, h1, h2, _, h4⟩ := h
  exact h4
set_option maxRecDepth 100000 in
set_option maxHeartbeats 2000000 in
theorem stands_L {w : World} {B p K : Nat} {ws : WS} {l : List DW} {lv : Value} (h : BookL w B p K ws l) (hd : DocAt w 0 lv l) (hK : K ≤ 50000) :
    Calls Try.prog 21 #[.pointer (some ⟨p, 0, none⟩), lv] w fun e w' => e = .returned (.bool true) ∧ Below w.heap.size w w' := by
  obtain ⟨n, hn⟩ : ∃ n, n = l.length := ⟨_, rfl⟩
  have hnK := h.docs.1
  rw [← hn] at hnK
  have HD := Lib.hid hd
  obtain ⟨va, vc, rfl⟩ := OwnS.len hd
  rw [← hn] at HD ⊢
  have HN := Lib.hid hn
  have HB := Lib.hid h
  have HT := Lib.hid h.topLen
  clear hn hd h
  go_enter Try.func21, Try.ntmps21
  go_wp2_with fail
  go_loopw [13] (fun i wr => ∃ (k : Nat), k ≤ n ∧ i = .int .i64 (k : Int) ∧ Below w.heap.size w wr) (fun i _ => n - (intOf i).toNat)
  case atStart => exact ⟨0, Nat.zero_le _, rfl, Below.refl _ _⟩
  case round =>
    obtain ⟨k, hk, rfl, hb⟩ := hrel
    have HBk := Lib.hid (HB.out.below hb)
    have HDk := Lib.hid (HD.out.below hb)
    by_cases hlt : k < n
    · have hd := HDk.out
      rw [HN.out] at hd
      obtain ⟨g, cap, hv, _⟩ := OwnS.shape hd (by rw [← HN.out]; omega)
      cases hv
      obtain ⟨d1, d2, d3⟩ := hd.cells k (by rw [← HN.out]; exact hlt)
      have hin := getD_mem l k (by rw [← HN.out]; exact hlt)
      have hsm := HBk.out.small _ hin
      have HF := Lib.hid (findD_in HBk.out.docs.2.2.2.1 hin)
      have HM := Lib.hid (nameD_in HBk.out.docs.2.2.2.1 hin)
      have HU := Lib.hid (usesD_in HBk.out.docs.2.2.2.1 hin)
      generalize l.getD k default = x at *
      have hbx : Below wr.heap.size wr (wr.alloc (.cells #[.string x.1, .int .i64 (x.2.1 : Int), .int .i64 (x.2.2 : Int)] 70)) := (Below.refl _ _).alloc (Nat.le_refl _) _
      have r0 : (wr.alloc (.cells #[.string x.1, .int .i64 (x.2.1 : Int), .int .i64 (x.2.2 : Int)] 70)).heap[wr.heap.size]? = some (.cells #[.string x.1, .int .i64 (x.2.1 : Int), .int .i64 (x.2.2 : Int)] 70 (0, 0)) := heap_alloc_new _ _
      have HBa := Lib.hid (HBk.out.below hbx)
      clear hd hin
      go_wp2_with fail
      refine (name_L HBa.out (by omega) (x.2.1 : Int)).mono ?_
      rw [HM.out]
      rintro e w1 ⟨rfl, hb1⟩
      have r1 := (hb1.block _ (by simp)).trans r0
      have g1 : w1.cell? ⟨wr.heap.size, 0, none⟩ = some (.string x.1) := by rw [cell_of_row _ _ 0 _ _ _ r1]; rfl
      have g2 : w1.cell? ⟨wr.heap.size, 1, none⟩ = some (.int .i64 (x.2.1 : Int)) := by rw [cell_of_row _ _ 1 _ _ _ r1]; rfl
      have g3 : w1.cell? ⟨wr.heap.size, 2, none⟩ = some (.int .i64 (x.2.2 : Int)) := by rw [cell_of_row _ _ 2 _ _ _ r1]; rfl
      have HB1 := Lib.hid (HBa.out.below hb1)
      have hb2 := hb.trans ((hbx.trans (hb1.mono hbx.size)).mono hb.size)
      clear r0 r1 hb1 HBa hbx HBk d1 d2 d3 HDk
      go_wp2_with fail
      refine (find_L HB1.out x.1 hsm).mono ?_
      rw [HF.out]
      rintro e w2 ⟨rfl, rfl⟩
      go_wp2_with fail
      have HUS : Hid (∀ w', Below w2.heap.size w2 w' → Calls Try.prog 19 #[.pointer (some ⟨p, 0, none⟩), .int .i64 (x.2.1 : Int)] w' fun e w3 => e = .returned (.int .i64 (x.2.2 : Int)) ∧ Below w'.heap.size w' w3) := Lib.hid fun w' hb' => by
        have := uses_L (HB1.out.below hb') (by omega) (x.2.1 : Int)
        rw [HU.out] at this
        exact this
      have HKS : Hid (∀ w' w3 : World, (w'.cell? ⟨wr.heap.size, 0, none⟩ = some (.string x.1) ∧ w'.cell? ⟨wr.heap.size, 1, none⟩ = some (.int .i64 (x.2.1 : Int)) ∧ w'.cell? ⟨wr.heap.size, 2, none⟩ = some (.int .i64 (x.2.2 : Int)) ∧ Below w2.heap.size w2 w') → Below w'.heap.size w' w3 → (w3.cell? ⟨wr.heap.size, 0, none⟩ = some (.string x.1) ∧ w3.cell? ⟨wr.heap.size, 1, none⟩ = some (.int .i64 (x.2.1 : Int)) ∧ w3.cell? ⟨wr.heap.size, 2, none⟩ = some (.int .i64 (x.2.2 : Int)) ∧ Below w2.heap.size w2 w3)) := Lib.hid fun w' w3 h1 h2 => ⟨(h2.cell (by exact block_lt_of_cell h1.1)).trans h1.1, (h2.cell (by exact block_lt_of_cell h1.2.1)).trans h1.2.1, (h2.cell (by exact block_lt_of_cell h1.2.2.1)).trans h1.2.2.1, h1.2.2.2.trans (h2.mono h1.2.2.2.size)⟩
      go_region_held3 (fun w' => w'.cell? ⟨wr.heap.size, 0, none⟩ = some (.string x.1) ∧ w'.cell? ⟨wr.heap.size, 1, none⟩ = some (.int .i64 (x.2.1 : Int)) ∧ w'.cell? ⟨wr.heap.size, 2, none⟩ = some (.int .i64 (x.2.2 : Int)) ∧ Below w2.heap.size w2 w')
        (first | exact HKS.out _ _ (by assumption) (by assumption) | exact ⟨g1, g2, g3, (Below.refl _ _).drew⟩ | go_keep)
        (first | (go_at_call 19; refine (HUS.out _ (And.right (And.right (And.right (by assumption))))).mono ?_; rintro e w' ⟨rfl, hba⟩))
      have hbF := And.right (And.right (And.right (by assumption : w'.cell? ⟨wr.heap.size, 0, none⟩ = some (.string x.1) ∧ w'.cell? ⟨wr.heap.size, 1, none⟩ = some (.int .i64 (x.2.1 : Int)) ∧ w'.cell? ⟨wr.heap.size, 2, none⟩ = some (.int .i64 (x.2.2 : Int)) ∧ Below w2.heap.size w2 w')))
      have hbG := hb2.trans (hbF.mono hb2.size)
      clear hbF hb2 g1 g2 g3
      go_wp2_with fail
      go_roundw
      case rel => exact ⟨k + 1, by omega, by go_num, hbG⟩
      case measure => simp [intOf]; omega
    · obtain rfl : k = n := by omega
      have HL := Lib.hid (len_L HBk.out)
      rw [← HN.out] at HL
      go_wp2_with fail
      refine HL.out.mono ?_
      rintro e w1 ⟨rfl, rfl⟩
      go_wp2_with fail
      refine (all_L HBk.out hK).mono ?_
      rintro e w2 ⟨v1, rfl, HS1, hb1⟩
      have HS1 := Lib.hid HS1
      obtain ⟨a1, c1, rfl⟩ := OwnS.len HS1.out
      go_wp2_with fail
      refine (rall_L (HBk.out.below hb1) (HDk.out.below hb1) hK).mono ?_
      rintro e w3 ⟨v2, rfl, HS2, hb2⟩
      have HS2 := Lib.hid HS2
      obtain ⟨a2, c2, rfl⟩ := OwnS.len HS2.out
      have HS1' := Lib.hid (HS1.out.below hb2)
      have hl := allD_len l (topD l)
      have HSM := Lib.hid (same_any _ _ _ _ _ _ HS1'.out HS2.out (by rw [hl]; have := HT.out; omega))
      clear hl
      go_wp2_with fail
      refine HSM.out.mono ?_
      rintro e w4 ⟨rfl, hb3⟩
      have hb4 := hb.trans ((hb1.trans ((hb2.trans (hb3.mono hb2.size)).mono hb1.size)).mono hb.size)
      go_wp2_with fail
      go_ret
      exact ⟨rfl, hb4⟩
end Go.Proofs.Ytoflicfghonhcaa
