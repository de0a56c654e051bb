/- PLAIN LAW OF LAYER 15 (lexicon): what a book has, and what the document's words are, behind each call. -/
import Derived.Test.YtoflicfghonhcaaLexS
import Derived.Test.YtoflicfghonhcaaLexC
import Derived.Test.YtoflicfghonhcaaLexD
namespace Go.Proofs.Ytoflicfghonhcaa
open Go.RowKit Go.WideMaps Go.Maps
set_option linter.unusedVariables false
abbrev WS := List (ByteArray × Nat)
def turnG (n : Nat) (more : Int) (x : DW) : Option DW := if x.2.1 = n then (if 0 < (x.2.2 : Int) + more then some (x.1, x.2.1, ((x.2.2 : Int) + more).toNat) else none) else some x
def turnD (l : List DW) (n : Nat) (more : Int) : List DW := l.filterMap (turnG n more)
theorem drop_getD {α : Type} [Inhabited α] (l : List α) (i : Nat) (h : i < l.length) : l.drop i = l.getD i default :: l.drop (i + 1) := by
  rw [List.drop_eq_getElem_cons h]
  simp [h]
theorem getD_mem {α : Type} [Inhabited α] (l : List α) (i : Nat) (h : i < l.length) : l.getD i default ∈ l := by
  have : l.getD i default = l[i] := by simp [h]
  rw [this]
  exact List.getElem_mem h
theorem usedFrom_turn (l : List DW) (j n : Nat) (more : Int) (hn : (l.getD j default).2.1 = n) (hu : ∀ i, i < l.length → (l.getD i default).2.1 = n → i = j) (hp : ∀ x ∈ l, 0 < x.2.2) :
    ∀ (m i : Nat) (out : List DW), i + m = l.length → usedFrom l (j : Int) more m i out = out ++ (l.drop i).filterMap (turnG n more)
  | 0, i, out, h => by
    rw [List.drop_of_length_le (by omega)]
    simp [usedFrom]
  | m + 1, i, out, h => by
    have hi : i < l.length := by omega
    have hpos := hp _ (getD_mem l i hi)
    rw [drop_getD l i hi, usedFrom]
    rw [usedFrom_turn l j n more hn hu hp m (i + 1) _ (by omega), usedFrom_turn l j n more hn hu hp m (i + 1) _ (by omega)]
    by_cases hij : i = j
    · subst hij
      have e : usedStep (i : Int) more i (l.getD i default) = ((l.getD i default).2.2 : Int) + more := by unfold usedStep; rw [if_pos rfl]
      rw [e]
      generalize l.getD i default = x at *
      obtain ⟨a, b, c⟩ := x
      dsimp only at *
      subst hn
      by_cases h0 : 0 < (c : Int) + more
      · rw [if_pos h0, List.filterMap_cons_some (b := (a, b, ((c : Int) + more).toNat)) (by unfold turnG; rw [if_pos rfl, if_pos h0])]
        simp
      · rw [if_neg h0, List.filterMap_cons_none (by unfold turnG; rw [if_pos rfl, if_neg h0])]
    · have hne : (l.getD i default).2.1 ≠ n := fun e => hij (hu i hi e)
      have e : usedStep (j : Int) more i (l.getD i default) = ((l.getD i default).2.2 : Int) := by unfold usedStep; rw [if_neg (by omega)]
      rw [e]
      generalize l.getD i default = x at *
      obtain ⟨a, b, c⟩ := x
      dsimp only at *
      rw [if_pos (by omega), List.filterMap_cons_some (b := (a, b, c)) (by unfold turnG; rw [if_neg hne])]
      simp
def Uniq (l : List DW) : Prop := l.Pairwise (fun x y => x.2.1 ≠ y.2.1 ∧ x.1 ≠ y.1)
theorem uniq_at {l : List DW} (h : Uniq l) (i j : Nat) (hi : i < l.length) (hj : j < l.length) (hne : i ≠ j) : (l.getD i default).2.1 ≠ (l.getD j default).2.1 ∧ (l.getD i default).1 ≠ (l.getD j default).1 := by
  have hp := List.pairwise_iff_getElem.1 h
  have e1 : l.getD i default = l[i] := by simp [hi]
  have e2 : l.getD j default = l[j] := by simp [hj]
  rw [e1, e2]
  rcases Nat.lt_or_gt_of_ne hne with hlt | hlt
  · exact hp i j hi hj hlt
  · have := hp j i hj hi hlt
    exact ⟨fun e => this.1 e.symm, fun e => this.2 e.symm⟩
theorem usedD_turn {l : List DW} (hq : Uniq l) (hp : ∀ x ∈ l, 0 < x.2.2) (j : Nat) (hj : j < l.length) (more : Int) : usedD l (j : Int) more = turnD l (l.getD j default).2.1 more := by
  unfold usedD
  rw [usedFrom_turn l j _ more rfl (fun i hi e => ?_) hp l.length 0 [] (by omega)]
  · simp [turnD]
  · by_cases hij : i = j
    · exact hij
    · exact absurd e (uniq_at hq i j hi hj hij).1
theorem turnG_some {n : Nat} {more : Int} {x y : DW} (h : turnG n more x = some y) : y.1 = x.1 ∧ y.2.1 = x.2.1 := by
  unfold turnG at h
  split at h
  · split at h
    · cases h; exact ⟨rfl, rfl⟩
    · cases h
  · cases h; exact ⟨rfl, rfl⟩
theorem turnD_uniq {l : List DW} (h : Uniq l) (n : Nat) (more : Int) : Uniq (turnD l n more) := by
  unfold Uniq turnD
  rw [List.pairwise_filterMap]
  refine List.Pairwise.imp ?_ h
  intro a b hab x hx y hy
  obtain ⟨h1, h2⟩ := turnG_some hx
  obtain ⟨h3, h4⟩ := turnG_some hy
  rw [h1, h2, h3, h4]
  exact hab
theorem uniq_num {l : List DW} (h : Uniq l) {x y : DW} (hx : x ∈ l) (hy : y ∈ l) (e : x.2.1 = y.2.1) : x = y := by
  obtain ⟨i, hi, rfl⟩ := List.getElem_of_mem hx
  obtain ⟨j, hj, rfl⟩ := List.getElem_of_mem hy
  by_cases hij : i = j
  · subst hij; rfl
  · have := (uniq_at h i j hi hj hij).1
    simp [hi, hj] at this
    exact absurd e this
theorem uniq_name {l : List DW} (h : Uniq l) {x y : DW} (hx : x ∈ l) (hy : y ∈ l) (e : x.1 = y.1) : x = y := by
  obtain ⟨i, hi, rfl⟩ := List.getElem_of_mem hx
  obtain ⟨j, hj, rfl⟩ := List.getElem_of_mem hy
  by_cases hij : i = j
  · subst hij; rfl
  · have := (uniq_at h i j hi hj hij).2
    simp [hi, hj] at this
    exact absurd e this
theorem mem_turnD {l : List DW} (h : Uniq l) {s : ByteArray} {n u : Nat} (hin : (s, n, u) ∈ l) (more : Int) (x : DW) :
    x ∈ turnD l n more ↔ (x ∈ l ∧ x.2.1 ≠ n) ∨ (0 < (u : Int) + more ∧ x = (s, n, ((u : Int) + more).toNat)) := by
  unfold turnD
  rw [List.mem_filterMap]
  constructor
  · rintro ⟨y, hy, he⟩
    by_cases hyn : y.2.1 = n
    · obtain rfl : y = (s, n, u) := uniq_num h hy hin hyn
      unfold turnG at he
      rw [if_pos rfl] at he
      split at he
      · cases he; exact .inr ⟨by assumption, rfl⟩
      · cases he
    · unfold turnG at he
      rw [if_neg hyn] at he
      cases he
      exact .inl ⟨hy, hyn⟩
  · rintro (⟨hx, hne⟩ | ⟨h0, rfl⟩)
    · exact ⟨x, hx, by unfold turnG; rw [if_neg hne]⟩
    · exact ⟨(s, n, u), hin, by unfold turnG; rw [if_pos rfl, if_pos h0]⟩
theorem turnD_none {l : List DW} {n : Nat} (h : ∀ x ∈ l, x.2.1 ≠ n) (more : Int) : turnD l n more = l := by
  induction l with
  | nil => rfl
  | cons a r ih =>
    unfold turnD at *
    rw [List.filterMap_cons_some (b := a) (by unfold turnG; rw [if_neg (h a (by simp))]), ih (fun x hx => h x (by simp [hx]))]
theorem turnD_len {l : List DW} (h : Uniq l) {s : ByteArray} {n u : Nat} (hin : (s, n, u) ∈ l) (more : Int) : (turnD l n more).length = if 0 < (u : Int) + more then l.length else l.length - 1 := by
  induction l with
  | nil => cases hin
  | cons a r ih =>
    obtain ⟨ha, hr⟩ := List.pairwise_cons.1 h
    rcases List.mem_cons.1 hin with rfl | hin'
    · have hno : ∀ x ∈ r, x.2.1 ≠ n := fun x hx e => (ha x hx).1 e.symm
      have e := turnD_none hno more
      unfold turnD at *
      by_cases h0 : 0 < (u : Int) + more
      · rw [List.filterMap_cons_some (b := (s, n, ((u : Int) + more).toNat)) (by unfold turnG; rw [if_pos rfl, if_pos h0]), e, if_pos h0]
        simp
      · rw [List.filterMap_cons_none (by unfold turnG; rw [if_pos rfl, if_neg h0]), e, if_neg h0]
        simp
    · have hne : a.2.1 ≠ n := (ha _ hin').1
      have hl : 0 < r.length := List.length_pos_of_mem hin'
      have e := ih hr hin'
      unfold turnD at *
      rw [List.filterMap_cons_some (b := a) (by unfold turnG; rw [if_neg hne]), List.length_cons, e]
      split <;> simp
      omega
/-- A book's words are the document's. -/
structure Rel (K : Nat) (ws : WS) (f : ByteArray → Option Nat) (l : List DW) : Prop where
  mem : ∀ x : DW, x ∈ l ↔ 1 ≤ x.2.1 ∧ ws.getD (x.2.1 - 1) default = (x.1, x.2.2) ∧ 0 < x.2.2
  hole : ∀ i, (ws.getD i default).2 = 0 → ws.getD i default = default
  uniq : Uniq l
  last : popT ws = ws
  num : ∀ s k, f s = some k ↔ ∃ u, (s, k, u) ∈ l
  good : ∀ x ∈ l, nameP x.1.data.toList = true
  len : ws.length ≤ K
  size : l.length ≤ K
  uses : ∀ x ∈ l, x.2.2 ≤ K
theorem Rel.pos {K : Nat} {ws : WS} {f : ByteArray → Option Nat} {l : List DW} (h : Rel K ws f l) : ∀ x ∈ l, 0 < x.2.2 := fun x hx => ((h.mem x).1 hx).2.2
theorem getD_out {α : Type} [Inhabited α] (l : List α) (i : Nat) (h : l.length ≤ i) : l.getD i default = default := by simp [h]
theorem Rel.lt {K : Nat} {ws : WS} {f : ByteArray → Option Nat} {l : List DW} (h : Rel K ws f l) {x : DW} (hx : x ∈ l) : x.2.1 - 1 < ws.length := by
  have h1 := ((h.mem x).1 hx)
  by_cases hlt : x.2.1 - 1 < ws.length
  · exact hlt
  · have e := getD_out ws (x.2.1 - 1) (by omega)
    rw [e] at h1
    have : x.2.2 = 0 := by rw [← (congrArg Prod.snd h1.2.1)]; rfl
    omega
theorem getD_set {α : Type} [Inhabited α] (l : List α) (i k : Nat) (y : α) (hi : i < l.length) : (l.set i y).getD k default = if k = i then y else l.getD k default := by
  by_cases h : k = i
  · subst h; simp [hi]
  · rw [if_neg h, List.getD_eq_getElem?_getD, List.getD_eq_getElem?_getD, List.getElem?_set_ne (fun e => h e.symm)]
theorem getD_append_one {α : Type} [Inhabited α] (l : List α) (k : Nat) (y : α) : (l ++ [y]).getD k default = if k = l.length then y else l.getD k default := by
  by_cases h : k = l.length
  · subst h; simp
  · rw [if_neg h]
    by_cases h2 : k < l.length
    · rw [List.getD_eq_getElem?_getD, List.getElem?_append_left h2, ← List.getD_eq_getElem?_getD]
    · rw [getD_out _ _ (by simp; omega), getD_out _ _ (by omega)]
theorem popT_rec (ws : WS) : popT ws = [] ∧ (∀ i, (ws.getD i default).2 = 0) ∨ ∃ r x, popT ws = r ++ [x] ∧ 0 < x.2 ∧ (∀ i, r.length < i → (ws.getD i default).2 = 0) ∧ r ++ [x] <+: ws := by
  induction hn : ws.length generalizing ws with
  | zero =>
    obtain rfl := List.eq_nil_of_length_eq_zero hn
    exact .inl ⟨rfl, fun i => rfl⟩
  | succ n ih =>
    rcases list_last ws with rfl | ⟨r, x, rfl⟩
    · simp at hn
    have hr : r.length = n := by simpa using hn
    by_cases hx : x.2 = 0
    · rw [popT_yes r x hx]
      rcases ih r hr with ⟨h1, h2⟩ | ⟨r', y, h1, h2, h3, h4⟩
      · refine .inl ⟨h1, fun i => ?_⟩
        rw [getD_append_one]
        split
        · exact hx
        · exact h2 i
      · refine .inr ⟨r', y, h1, h2, fun i hi => ?_, h4.trans (List.prefix_append _ _)⟩
        rw [getD_append_one]
        split
        · exact hx
        · exact h3 i hi
    · rw [popT_no r x hx]
      refine .inr ⟨r, x, rfl, by omega, fun i hi => ?_, List.prefix_rfl⟩
      rw [getD_out _ _ (by simp; omega)]
      rfl
theorem popT_popT (ws : WS) : popT (popT ws) = popT ws := by
  rcases popT_rec ws with ⟨h1, _⟩ | ⟨r, x, h1, h2, _⟩
  · rw [h1]; rfl
  · rw [h1, popT_no r x (by omega)]
theorem popT_len (ws : WS) : (popT ws).length ≤ ws.length := by
  rcases popT_rec ws with ⟨h1, _⟩ | ⟨r, x, h1, _, _, h4⟩
  · rw [h1]; simp
  · rw [h1]; exact h4.length_le
theorem popT_getD (ws : WS) (hole : ∀ i, (ws.getD i default).2 = 0 → ws.getD i default = default) (i : Nat) : (popT ws).getD i default = ws.getD i default := by
  rcases popT_rec ws with ⟨h1, h2⟩ | ⟨r, x, h1, h2, h3, h4⟩
  · rw [h1, hole i (h2 i)]; rfl
  · rw [h1]
    by_cases hi : i < (r ++ [x]).length
    · obtain ⟨t, rfl⟩ := h4
      rw [List.getD_eq_getElem?_getD, List.getD_eq_getElem?_getD, List.getElem?_append_left hi]
    · rw [getD_out _ _ (by omega), hole i (h3 i (by simp at hi; omega))]
theorem popT_fix (ws : WS) : popT ws = ws ↔ ws = [] ∨ 0 < (ws.getD (ws.length - 1) default).2 := by
  rcases list_last ws with rfl | ⟨r, x, rfl⟩
  · exact ⟨fun _ => .inl rfl, fun _ => rfl⟩
  · have e : (r ++ [x]).getD ((r ++ [x]).length - 1) default = x := by
      rw [getD_append_one, if_pos (by simp)]
    rw [e]
    constructor
    · intro h
      refine .inr (Nat.pos_of_ne_zero fun h0 => ?_)
      have h1 := popT_len r
      rw [popT_yes r x h0] at h
      rw [h] at h1
      simp at h1
      omega
    · rintro (h | h)
      · simp at h
      · exact popT_no r x (by omega)
theorem Rel.turn {K K' : Nat} {ws : WS} {f : ByteArray → Option Nat} {l : List DW} (h : Rel K ws f l) {s : ByteArray} {k u u' : Nat} (hin : (s, k, u) ∈ l) (more : Int) (hu : (u' : Int) = (u : Int) + more) (h0 : 0 < u') (hK : K ≤ K') (hK' : u' ≤ K') :
    Rel K' (ws.set (k - 1) (s, u')) f (turnD l k more) := by
  have hlt : k - 1 < ws.length := h.lt hin
  have hm := (h.mem _).1 hin
  dsimp only at hm
  have h0' : 0 < (u : Int) + more := by omega
  have hu2 : ((u : Int) + more).toNat = u' := by omega
  have hmem := mem_turnD h.uniq hin more
  rw [hu2] at hmem
  refine ⟨fun x => ?_, fun i => ?_, turnD_uniq h.uniq _ _, ?_, fun s' k' => ?_, fun x hx => ?_, ?_, ?_, fun x hx => ?_⟩
  · rw [hmem, getD_set _ _ _ _ hlt]
    constructor
    · rintro (⟨hx, hne⟩ | ⟨_, rfl⟩)
      · have hx' := (h.mem x).1 hx
        rw [if_neg (by omega)]
        exact hx'
      · exact ⟨hm.1, by rw [if_pos rfl], h0⟩
    · rintro ⟨h1, h2, h3⟩
      by_cases hk : x.2.1 = k
      · rw [if_pos (by omega)] at h2
        refine .inr ⟨h0', ?_⟩
        obtain ⟨a, b, c⟩ := x
        simp only at hk h2
        cases h2
        subst hk
        rfl
      · rw [if_neg (by omega)] at h2
        exact .inl ⟨(h.mem x).2 ⟨h1, h2, h3⟩, hk⟩
  · rw [getD_set _ _ _ _ hlt]
    split
    · intro e; dsimp only at e; omega
    · exact h.hole i
  · have hl := (popT_fix ws).1 h.last
    refine (popT_fix _).2 (.inr ?_)
    rw [List.length_set, getD_set _ _ _ _ hlt]
    split
    · exact h0
    · rcases hl with rfl | hl
      · simp at hlt
      · exact hl
  · rw [h.num]
    constructor
    · rintro ⟨v, hv⟩
      by_cases hk : k' = k
      · subst hk
        have := uniq_num h.uniq hv hin rfl
        cases this
        exact ⟨u', (hmem _).2 (.inr ⟨h0', rfl⟩)⟩
      · exact ⟨v, (hmem _).2 (.inl ⟨hv, hk⟩)⟩
    · rintro ⟨v, hv⟩
      rcases (hmem _).1 hv with ⟨h1, _⟩ | ⟨_, h2⟩
      · exact ⟨v, h1⟩
      · cases h2; exact ⟨u, hin⟩
  · rcases (hmem _).1 hx with ⟨h1, _⟩ | ⟨_, rfl⟩
    · exact h.good x h1
    · exact h.good (s, k, u) hin
  · rw [List.length_set]; exact Nat.le_trans h.len hK
  · rw [turnD_len h.uniq hin, if_pos h0']; exact Nat.le_trans h.size hK
  · rcases (hmem _).1 hx with ⟨h1, _⟩ | ⟨_, rfl⟩
    · exact Nat.le_trans (h.uses x h1) hK
    · exact hK'
theorem Rel.gone {K : Nat} {ws : WS} {f : ByteArray → Option Nat} {l : List DW} (h : Rel K ws f l) {s : ByteArray} {k : Nat} (hin : (s, k, 1) ∈ l) :
    Rel K (popT (ws.set (k - 1) (ByteArray.empty, 0))) (updN f s none) (turnD l k (-1)) := by
  have hlt : k - 1 < ws.length := h.lt hin
  have hm := (h.mem _).1 hin
  dsimp only at hm
  have hmem : ∀ x, x ∈ turnD l k (-1) ↔ x ∈ l ∧ x.2.1 ≠ k := fun x => by
    rw [mem_turnD h.uniq hin (-1)]
    constructor
    · rintro (h1 | ⟨h1, _⟩)
      · exact h1
      · omega
    · exact .inl
  have hole : ∀ i, ((ws.set (k - 1) (ByteArray.empty, 0)).getD i default).2 = 0 → (ws.set (k - 1) (ByteArray.empty, 0)).getD i default = default := fun i => by
    rw [getD_set _ _ _ _ hlt]
    split
    · intro _; rfl
    · exact h.hole i
  have hg := popT_getD _ hole
  refine ⟨fun x => ?_, fun i => ?_, turnD_uniq h.uniq _ _, popT_popT _, fun s' k' => ?_, fun x hx => ?_, ?_, ?_, fun x hx => ?_⟩
  · rw [hmem, hg, getD_set _ _ _ _ hlt]
    constructor
    · rintro ⟨hx, hne⟩
      have hx' := (h.mem x).1 hx
      rw [if_neg (by omega)]
      exact hx'
    · rintro ⟨h1, h2, h3⟩
      by_cases hk : x.2.1 = k
      · rw [if_pos (by omega)] at h2
        have := congrArg Prod.snd h2
        dsimp only at this
        omega
      · rw [if_neg (by omega)] at h2
        exact ⟨(h.mem x).2 ⟨h1, h2, h3⟩, hk⟩
  · rw [hg]; exact hole i
  · by_cases hs : s' = s
    · subst hs
      rw [updN_same]
      constructor
      · intro e; cases e
      · rintro ⟨v, hv⟩
        obtain ⟨h1, h2⟩ := (hmem _).1 hv
        have := uniq_name h.uniq h1 hin rfl
        cases this
        exact absurd rfl h2
    · rw [updN_other _ _ _ _ hs, h.num]
      constructor
      · rintro ⟨v, hv⟩
        refine ⟨v, (hmem _).2 ⟨hv, fun e => ?_⟩⟩
        have := uniq_num h.uniq hv hin e
        cases this
        exact hs rfl
      · rintro ⟨v, hv⟩
        exact ⟨v, ((hmem _).1 hv).1⟩
  · exact h.good x ((hmem _).1 hx).1
  · exact Nat.le_trans (popT_len _) (by rw [List.length_set]; exact h.len)
  · rw [turnD_len h.uniq hin, if_neg (by omega)]; have := h.size; omega
  · exact h.uses x ((hmem _).1 hx).1
/-- The least number that is free. -/
structure IsLeast (l : List DW) (N : Nat) : Prop where
  pos : 1 ≤ N
  free : ∀ x ∈ l, x.2.1 ≠ N
  least : ∀ n, 1 ≤ n → n < N → ∃ x ∈ l, x.2.1 = n
theorem freeFrom_spec (ws : WS) : ∀ (m n : Nat), n + m = ws.length → n ≤ freeFrom ws m n ∧ freeFrom ws m n ≤ ws.length ∧ (ws.getD (freeFrom ws m n) default).2 = 0 ∧ ∀ j, n ≤ j → j < freeFrom ws m n → 0 < (ws.getD j default).2
  | 0, n, h => ⟨Nat.le_refl _, by unfold freeFrom; omega, by unfold freeFrom; rw [getD_out _ _ (by omega)]; rfl, fun j h1 h2 => by unfold freeFrom at h2; omega⟩
  | m + 1, n, h => by
    rw [freeFrom]
    split
    · rename_i h0
      exact ⟨Nat.le_refl _, by omega, h0, fun j h1 h2 => by omega⟩
    · rename_i h0
      obtain ⟨h1, h2, h3, h4⟩ := freeFrom_spec ws m (n + 1) (by omega)
      refine ⟨by omega, h2, h3, fun j hj1 hj2 => ?_⟩
      rcases Nat.eq_or_lt_of_le hj1 with rfl | hj
      · omega
      · exact h4 j hj hj2
theorem freeW_spec (ws : WS) : ∃ i, freeW ws = i + 1 ∧ i ≤ ws.length ∧ (ws.getD i default).2 = 0 ∧ ∀ j, j < i → 0 < (ws.getD j default).2 := by
  obtain ⟨_, h2, h3, h4⟩ := freeFrom_spec ws ws.length 0 (by omega)
  exact ⟨_, rfl, h2, h3, fun j hj => h4 j (Nat.zero_le _) hj⟩
theorem Rel.least {K : Nat} {ws : WS} {f : ByteArray → Option Nat} {l : List DW} (h : Rel K ws f l) : IsLeast l (freeW ws) := by
  obtain ⟨i, h1, h2, h3, h4⟩ := freeW_spec ws
  rw [h1]
  refine ⟨by omega, fun x hx e => ?_, fun n hn hlt => ?_⟩
  · have hx' := (h.mem x).1 hx
    rw [show x.2.1 - 1 = i by omega] at hx'
    have := congrArg Prod.snd hx'.2.1
    dsimp only at this
    omega
  · have h5 := h4 (n - 1) (by omega)
    exact ⟨((ws.getD (n - 1) default).1, n, (ws.getD (n - 1) default).2), (h.mem _).2 ⟨hn, rfl, h5⟩, rfl⟩
theorem Rel.new {K : Nat} {ws ws' : WS} {f : ByteArray → Option Nat} {l : List DW} (h : Rel K ws f l) (s : ByteArray) (i : Nat) (hn : nameP s.data.toList = true) (hf : f s = none) (hi : freeW ws = i + 1)
    (hget : ∀ j, ws'.getD j default = if j = i then (s, 1) else ws.getD j default) (hlast : popT ws' = ws') (hlen : ws'.length ≤ K + 1) :
    Rel (K + 1) ws' (updN f s (some (i + 1))) (l ++ [(s, i + 1, 1)]) := by
  obtain ⟨h1, h2, h3⟩ := h.least
  rw [hi] at h1 h2 h3
  have hno : ∀ x ∈ l, x.1 ≠ s := fun x hx e => by
    subst e
    have := (h.num x.1 x.2.1).2 ⟨x.2.2, hx⟩
    rw [hf] at this
    cases this
  have hfr : (ws.getD i default).2 = 0 := by
    obtain ⟨i', e, _, h5, _⟩ := freeW_spec ws
    obtain rfl : i = i' := by omega
    exact h5
  refine ⟨fun x => ?_, fun j => ?_, ?_, hlast, fun s' k' => ?_, fun x hx => ?_, hlen, ?_, fun x hx => ?_⟩
  · rw [List.mem_append, List.mem_singleton, hget]
    constructor
    · rintro (hx | rfl)
      · have hx' := (h.mem x).1 hx
        rw [if_neg (by have := h2 x hx; omega)]
        exact hx'
      · exact ⟨by simp, by simp, by simp⟩
    · rintro ⟨e1, e2, e3⟩
      by_cases hk : x.2.1 - 1 = i
      · rw [if_pos hk] at e2
        right
        obtain ⟨a, b, c⟩ := x
        simp only at hk e1 e2
        cases e2
        obtain rfl : b = i + 1 := by omega
        rfl
      · rw [if_neg hk] at e2
        exact .inl ((h.mem x).2 ⟨e1, e2, e3⟩)
  · rw [hget]
    split
    · intro e; simp at e
    · exact h.hole j
  · refine List.pairwise_append.2 ⟨h.uniq, List.pairwise_singleton _ _, fun a ha b hb => ?_⟩
    obtain rfl := List.mem_singleton.1 hb
    exact ⟨h2 a ha, hno a ha⟩
  · by_cases hs : s' = s
    · subst hs
      rw [updN_same]
      constructor
      · intro e
        cases e
        exact ⟨1, by simp⟩
      · rintro ⟨v, hv⟩
        rcases List.mem_append.1 hv with hv | hv
        · exact absurd rfl (hno _ hv)
        · simp at hv
          rw [hv.1]
    · rw [updN_other _ _ _ _ hs, h.num]
      constructor
      · rintro ⟨v, hv⟩; exact ⟨v, List.mem_append_left _ hv⟩
      · rintro ⟨v, hv⟩
        rcases List.mem_append.1 hv with hv | hv
        · exact ⟨v, hv⟩
        · simp at hv
          exact absurd hv.1 hs
  · rcases List.mem_append.1 hx with hx | hx
    · exact h.good x hx
    · obtain rfl := List.mem_singleton.1 hx; exact hn
  · rw [List.length_append]; have := h.size; simp; omega
  · rcases List.mem_append.1 hx with hx | hx
    · have := h.uses x hx; omega
    · obtain rfl := List.mem_singleton.1 hx; dsimp only; omega
theorem Rel.newFree {K : Nat} {ws : WS} {f : ByteArray → Option Nat} {l : List DW} (h : Rel K ws f l) (s : ByteArray) (i : Nat) (hn : nameP s.data.toList = true) (hf : f s = none) (hi : freeW ws = i + 1) (hlt : i < ws.length) :
    Rel (K + 1) (ws.set i (s, 1)) (updN f s (some (i + 1))) (l ++ [(s, i + 1, 1)]) := by
  refine h.new s i hn hf hi (fun j => getD_set _ _ _ _ hlt) ?_ (by rw [List.length_set]; have := h.len; omega)
  refine (popT_fix _).2 (.inr ?_)
  rw [List.length_set, getD_set _ _ _ _ hlt]
  split
  · exact Nat.one_pos
  · rcases (popT_fix ws).1 h.last with rfl | hl
    · simp at hlt
    · exact hl
theorem Rel.newGrow {K : Nat} {ws : WS} {f : ByteArray → Option Nat} {l : List DW} (h : Rel K ws f l) (s : ByteArray) (i : Nat) (hn : nameP s.data.toList = true) (hf : f s = none) (hi : freeW ws = i + 1) (he : i = ws.length) :
    Rel (K + 1) (ws ++ [(s, 1)]) (updN f s (some (i + 1))) (l ++ [(s, i + 1, 1)]) := by
  refine h.new s i hn hf hi (fun j => by rw [getD_append_one, he]) (popT_no _ _ (by simp)) (by have := h.len; simp; omega)
theorem Rel.mono {K K' : Nat} {ws : WS} {f : ByteArray → Option Nat} {l : List DW} (h : Rel K ws f l) (hK : K ≤ K') : Rel K' ws f l :=
  ⟨h.mem, h.hole, h.uniq, h.last, h.num, h.good, Nat.le_trans h.len hK, Nat.le_trans h.size hK, fun x hx => Nat.le_trans (h.uses x hx) hK⟩
theorem Rel.nil (K : Nat) : Rel K [] (fun _ => none) [] := by
  refine ⟨fun x => ⟨fun h => ?_, fun h => ?_⟩, fun i _ => rfl, List.Pairwise.nil, rfl, fun s k => ⟨fun h => ?_, fun h => ?_⟩, fun x h => ?_, Nat.zero_le _, Nat.zero_le _, fun x h => ?_⟩
  · cases h
  · have h1 := congrArg Prod.snd h.2.1
    have h3 := h.2.2
    have h4 : x.2.2 = 0 := h1.symm
    omega
  · cases h
  · obtain ⟨_, h⟩ := h
    cases h
  · cases h
  · cases h
end Go.Proofs.Ytoflicfghonhcaa
