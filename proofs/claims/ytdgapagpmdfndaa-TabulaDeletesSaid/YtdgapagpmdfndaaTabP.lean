/- PLAIN LAW OF LAYER 13 (tabula): rows in order of their keys; what is put, deleted, asked. -/
import Derived.Test.YtdgapagpmdfndaaTabC
namespace Go.Proofs.Ytdgapagpmdfndaa
set_option linter.unusedVariables false
def Sorted (l : List Row) : Prop := l.Pairwise (fun a b => a.1 < b.1)
def insL (l : List Row) (key v : Int) : List Row := l.filter (fun x => decide (x.1 < key)) ++ (key, v) :: l.filter (fun x => decide (key < x.1))
def delL (l : List Row) (key : Int) : List Row := l.filter (fun x => decide (x.1 ≠ key))
def getL (l : List Row) (key : Int) : Option Int := (l.find? (fun x => decide (x.1 = key))).map (·.2)
theorem filter_all {l : List Row} {p : Row → Bool} (h : ∀ x ∈ l, p x = true) : l.filter p = l := List.filter_eq_self.2 h
theorem filter_none {l : List Row} {p : Row → Bool} (h : ∀ x ∈ l, p x = false) : l.filter p = [] := List.filter_eq_nil_iff.2 fun x hx e => by rw [h x hx] at e; cases e
theorem insL_mid {A M D : List Row} {key : Int} (hA : ∀ x ∈ A, x.1 < key) (hD : ∀ x ∈ D, key < x.1) (v : Int) : insL (A ++ M ++ D) key v = A ++ insL M key v ++ D := by
  unfold insL
  simp only [List.filter_append]
  rw [filter_all (l := A) (p := fun x => decide (x.1 < key)) fun x hx => by simpa using hA x hx, filter_none (l := D) (p := fun x => decide (x.1 < key)) fun x hx => by have := hD x hx; simp; omega,
    filter_none (l := A) (p := fun x => decide (key < x.1)) fun x hx => by have := hA x hx; simp; omega, filter_all (l := D) (p := fun x => decide (key < x.1)) fun x hx => by simpa using hD x hx]
  simp
theorem delL_mid {A M D : List Row} {key : Int} (hA : ∀ x ∈ A, x.1 < key) (hD : ∀ x ∈ D, key < x.1) : delL (A ++ M ++ D) key = A ++ delL M key ++ D := by
  unfold delL
  simp only [List.filter_append]
  rw [filter_all (l := A) fun x hx => by have := hA x hx; simp; omega, filter_all (l := D) fun x hx => by have := hD x hx; simp; omega]
theorem find_none {l : List Row} {p : Row → Bool} (h : ∀ x ∈ l, p x = false) : l.find? p = none := List.find?_eq_none.2 fun x hx e => by rw [h x hx] at e; cases e
theorem getL_mid {A M D : List Row} {key : Int} (hA : ∀ x ∈ A, x.1 < key) (hD : ∀ x ∈ D, key < x.1) : getL (A ++ M ++ D) key = getL M key := by
  unfold getL
  rw [List.find?_append, List.find?_append, find_none (l := A) fun x hx => by have := hA x hx; simp; omega, find_none (l := D) fun x hx => by have := hD x hx; simp; omega]
  simp
theorem sorted_get {l : List Row} (h : Sorted l) {i j : Nat} (hij : i < j) (hj : j < l.length) : (l.getD i default).1 < (l.getD j default).1 := by
  have := List.pairwise_iff_getElem.1 h i j (by omega) hj hij
  have e1 : l.getD i default = l[i] := by simp [show i < l.length by omega]
  have e2 : l.getD j default = l[j] := by simp [hj]
  rw [e1, e2]
  exact this
theorem mem_getD {l : List Row} {x : Row} (h : x ∈ l) : ∃ i, i < l.length ∧ l.getD i default = x := by
  obtain ⟨i, hi, rfl⟩ := List.getElem_of_mem h
  exact ⟨i, hi, by simp [hi]⟩
theorem sorted_last {l : List Row} (h : Sorted l) : ∀ x ∈ l, x.1 ≤ lastK l := by
  intro x hx
  obtain ⟨i, hi, rfl⟩ := mem_getD hx
  unfold lastK
  by_cases e : i = l.length - 1
  · rw [← e]; exact Int.le_refl _
  · have := sorted_get h (i := i) (j := l.length - 1) (by omega) (by omega)
    omega
theorem sorted_app {A D : List Row} (h : Sorted (A ++ D)) : Sorted A ∧ Sorted D ∧ ∀ a ∈ A, ∀ d ∈ D, a.1 < d.1 := List.pairwise_append.1 h
theorem lastK_mem {l : List Row} (h : l ≠ []) : ∃ x ∈ l, x.1 = lastK l := by
  have : 0 < l.length := by
    cases l with
    | nil => exact absurd rfl h
    | cons a r => simp
  exact ⟨_, getD_mem l (l.length - 1) (by omega), rfl⟩
/-- Around the place of a cut. -/
theorem cut_split {l : List Row} (h : Sorted l) {key : Int} {t : Nat} (hc : IsCut l key t) : (∀ x ∈ l.take t, x.1 < key) ∧ (∀ x ∈ l.drop t, key ≤ x.1) := by
  obtain ⟨h1, h2, h3⟩ := hc
  constructor
  · intro x hx
    obtain ⟨i, hi, e⟩ := mem_getD hx
    rw [List.length_take] at hi
    have e2 : (l.take t).getD i default = l.getD i default := by simp [List.getD_eq_getElem?_getD, show i < t by omega]
    rw [← e, e2]
    exact h2 i (by omega)
  · intro x hx
    obtain ⟨i, hi, e⟩ := mem_getD hx
    rw [List.length_drop] at hi
    have e2 : (l.drop t).getD i default = l.getD (t + i) default := by simp [List.getD_eq_getElem?_getD, List.getElem?_drop]
    rw [← e, e2]
    exact h3 _ (by omega) (by omega)
theorem drop_getD {α : Type} [Inhabited α] (l : List α) (i : Nat) (h : i < l.length) : l.drop i = l.getD i default :: l.drop (i + 1) := by
  rw [List.drop_eq_getElem_cons h]
  simp [h]
/-- A key that is there. -/
theorem cut_there {l : List Row} (h : Sorted l) {key : Int} {t : Nat} (hc : IsCut l key t) (ht : t < l.length) (hk : (l.getD t default).1 = key) :
    (∀ v, insL l key v = l.set t (key, v)) ∧ delL l key = l.take t ++ l.drop (t + 1) ∧ getL l key = some (l.getD t default).2 := by
  obtain ⟨h1, h2⟩ := cut_split h hc
  have e : l = l.take t ++ [l.getD t default] ++ l.drop (t + 1) := by
    have := drop_getD l t ht
    conv => lhs; rw [← List.take_append_drop t l, this]
    simp
  have h3 : ∀ x ∈ l.drop (t + 1), key < x.1 := fun x hx => by
    have hd := (sorted_app (by rw [List.take_append_drop]; exact h : Sorted (l.take t ++ l.drop t))).2.1
    rw [drop_getD l t ht] at hd
    have := (List.pairwise_cons.1 hd).1 x hx
    rw [hk] at this
    exact this
  have hset : ∀ y, l.set t y = l.take t ++ [y] ++ l.drop (t + 1) := fun y => by
    conv => lhs; rw [e]
    rw [List.append_assoc, List.set_append_right _ _ (by rw [List.length_take]; omega), List.length_take, show t - min t l.length = 0 by omega]
    simp
  generalize l.getD t default = x at *
  refine ⟨fun v => ?_, ?_, ?_⟩
  · rw [hset]
    conv => lhs; rw [e]
    rw [insL_mid h1 h3]
    congr 2
    simp [insL, hk]
  · conv => lhs; rw [e]
    rw [delL_mid h1 h3]
    simp [delL, hk]
  · conv => lhs; rw [e]
    rw [getL_mid h1 h3]
    simp [getL, hk]
/-- A key that is not there. -/
theorem cut_not {l : List Row} (h : Sorted l) {key : Int} {t : Nat} (hc : IsCut l key t) (hk : ¬ (t < l.length ∧ (l.getD t default).1 = key)) :
    (∀ v, insL l key v = l.take t ++ (key, v) :: l.drop t) ∧ delL l key = l ∧ getL l key = none := by
  obtain ⟨h1, h2⟩ := cut_split h hc
  have h3 : ∀ x ∈ l.drop t, key < x.1 := fun x hx => by
    have hlt : t < l.length := by
      rcases Nat.lt_or_ge t l.length with hl | hl
      · exact hl
      · rw [List.drop_of_length_le hl] at hx; cases hx
    have hne : (l.getD t default).1 ≠ key := fun e => hk ⟨hlt, e⟩
    have h0 : key ≤ (l.getD t default).1 := h2 _ (by rw [drop_getD l t hlt]; exact List.mem_cons_self)
    rw [drop_getD l t hlt] at hx
    rcases List.mem_cons.1 hx with rfl | hx
    · omega
    · have hd := (sorted_app (by rw [List.take_append_drop]; exact h : Sorted (l.take t ++ l.drop t))).2.1
      rw [drop_getD l t hlt] at hd
      have := (List.pairwise_cons.1 hd).1 x hx
      omega
  have e : l = l.take t ++ [] ++ l.drop t := by simp
  refine ⟨fun v => ?_, ?_, ?_⟩
  · conv => lhs; rw [e]
    rw [insL_mid h1 h3]
    simp [insL]
  · conv => lhs; rw [e]
    rw [delL_mid h1 h3]
    simp [delL]
  · conv => lhs; rw [e]
    rw [getL_mid h1 h3]
    simp [getL]
/-- The part below in which a key is, and the rows around it. -/
theorem sub_split {ks : List Kid} (h : Sorted (kidsL ks)) (hne : ∀ c ∈ ks, c.L ≠ []) {key : Int} {t : Nat} (hs : IsSub ks key t) :
    kidsL ks = kidsL (ks.take t) ++ (ks.getD t default).L ++ kidsL (ks.drop (t + 1)) ∧ (∀ x ∈ kidsL (ks.take t), x.1 < key) ∧ (∀ x ∈ kidsL (ks.drop (t + 1)), key < x.1) ∧ Sorted (ks.getD t default).L := by
  obtain ⟨h1, h2, h3⟩ := hs
  have e := kids_split ks t h1
  have hL : kidsL ks = kidsL (ks.take t) ++ (ks.getD t default).L ++ kidsL (ks.drop (t + 1)) := by
    conv => lhs; rw [e]
    rw [kidsL_append]
    simp [kidsL]
  have hS := h
  rw [hL] at hS
  obtain ⟨s1, s2, s3⟩ := sorted_app hS
  obtain ⟨s4, s5, s6⟩ := sorted_app s1
  refine ⟨hL, fun x hx => ?_, fun x hx => ?_, s5⟩
  · obtain ⟨c, hc, hxc⟩ := List.mem_flatMap.1 hx
    obtain ⟨i, hi, ec⟩ := List.getElem_of_mem hc
    rw [List.length_take] at hi
    have ei : ks.getD i default = c := by
      rw [← ec]
      simp [show i < ks.length by omega]
    have hsc : Sorted c.L := by
      have e2 := kids_split ks i (by omega)
      have hL2 : kidsL ks = kidsL (ks.take i) ++ (ks.getD i default).L ++ kidsL (ks.drop (i + 1)) := by
        conv => lhs; rw [e2]
        rw [kidsL_append]
        simp [kidsL]
      have hS2 := h
      rw [hL2, ei] at hS2
      exact (sorted_app (sorted_app hS2).1).2.1
    have := h2 i (by omega)
    rw [ei] at this
    have := sorted_last hsc x hxc
    omega
  · rcases h3 with h3 | h3
    · rw [h3, List.drop_of_length_le (Nat.le_refl _)] at hx
      simp [kidsL] at hx
    · obtain ⟨y, hy, ey⟩ := lastK_mem (hne _ (getD_mem ks t h1))
      have := s3 y (List.mem_append_right _ hy) x hx
      omega
/-- The last keys rise. -/
theorem lasts_mono {ks : List Kid} (h : Sorted (kidsL ks)) (hne : ∀ c ∈ ks, c.L ≠ []) : ∀ i j, i ≤ j → j < ks.length → lastK (ks.getD i default).L ≤ lastK (ks.getD j default).L := by
  intro i j hij hj
  rcases Nat.eq_or_lt_of_le hij with rfl | hlt
  · exact Int.le_refl _
  · have e := kids_split ks j hj
    have hL : kidsL ks = kidsL (ks.take j) ++ (ks.getD j default).L ++ kidsL (ks.drop (j + 1)) := by
      conv => lhs; rw [e]
      rw [kidsL_append]
      simp [kidsL]
    rw [hL] at h
    obtain ⟨_, _, s6⟩ := sorted_app (sorted_app h).1
    obtain ⟨x, hx, ex⟩ := lastK_mem (hne _ (getD_mem ks i (by omega)))
    obtain ⟨y, hy, ey⟩ := lastK_mem (hne _ (getD_mem ks j hj))
    have hmem : ks.getD i default ∈ ks.take j := by
      have : (ks.take j).getD i default = ks.getD i default := by simp [List.getD_eq_getElem?_getD, hlt]
      rw [← this]
      exact getD_mem _ _ (by rw [List.length_take]; omega)
    have := s6 x (List.mem_flatMap.2 ⟨_, hmem, hx⟩) y hy
    omega
theorem insL_sorted {l : List Row} (h : Sorted l) (key v : Int) : Sorted (insL l key v) := by
  refine List.pairwise_append.2 ⟨h.filter _, List.pairwise_cons.2 ⟨fun x hx => ?_, h.filter _⟩, fun a ha b hb => ?_⟩
  · have := (List.mem_filter.1 hx).2
    simpa using this
  · have h1 := (List.mem_filter.1 ha).2
    simp only [decide_eq_true_eq] at h1
    rcases List.mem_cons.1 hb with rfl | hb
    · exact h1
    · have h2 := (List.mem_filter.1 hb).2
      simp only [decide_eq_true_eq] at h2
      omega
theorem delL_sorted {l : List Row} (h : Sorted l) (key : Int) : Sorted (delL l key) := h.filter _
end Go.Proofs.Ytdgapagpmdfndaa
