/- THE PLAIN SIDE OF LAYER 14 (spans): Label, step by step as the program goes. -/
import Derived.Test.YtahdlbckcddeeaaSpansPlain
import Derived.Test.YtahdlbckcddeeaaParsePlain
namespace Go.Proofs.Ytahdlbckcddeeaa
open Go.RowKit
def gapI : Int := 1099511627776
structure LSt where
  out : List (Int × Int)
  opn : List Nat
  at_ : Int
def setFrom (l : List (Int × Int)) (i : Nat) (v : Int) : List (Int × Int) := l.set i (v, (l.getD i default).2)
def setTo (l : List (Int × Int)) (i : Nat) (v : Int) : List (Int × Int) := l.set i ((l.getD i default).1, v)
def shut1 (s : LSt) : LSt := ⟨setTo s.out (s.opn.getLastD 0) (s.at_ + gapI), s.opn.dropLast, s.at_ + gapI⟩
def shutN : Nat → LSt → LSt
  | 0, s => s
  | n + 1, s => shutN n (shut1 s)
def shutP (lv : Nat) (s : LSt) : LSt := shutN (s.opn.length - lv) s
def labStep (s : LSt) (k lv : Nat) : LSt := ⟨setFrom (shutP lv s).out k ((shutP lv s).at_ + gapI), (shutP lv s).opn ++ [k], (shutP lv s).at_ + gapI⟩
def labGo (L : List Item) : Nat → LSt
  | 0 => ⟨List.replicate L.length (0, 0), [], 0⟩
  | k + 1 => labStep (labGo L k) k (L.getD k default).level.toNat
def labelP (L : List Item) : List (Int × Int) := (shutP 0 (labGo L L.length)).out
theorem setFrom_len (l : List (Int × Int)) (i : Nat) (v : Int) : (setFrom l i v).length = l.length := by unfold setFrom; simp
theorem setTo_len (l : List (Int × Int)) (i : Nat) (v : Int) : (setTo l i v).length = l.length := by unfold setTo; simp
theorem shutP_more (lv : Nat) (s : LSt) (h : lv < s.opn.length) : shutP lv s = shutP lv (shut1 s) := by
  unfold shutP
  obtain ⟨n, hn⟩ : ∃ n, s.opn.length - lv = n + 1 := ⟨s.opn.length - lv - 1, by omega⟩
  rw [hn]
  have : (shut1 s).opn.length - lv = n := by unfold shut1; simp; omega
  rw [this]
  rfl
theorem shutP_done (lv : Nat) (s : LSt) (h : ¬ lv < s.opn.length) : shutP lv s = s := by
  unfold shutP
  rw [show s.opn.length - lv = 0 by omega]
  rfl
theorem shutN_len (n : Nat) : ∀ s : LSt, (shutN n s).out.length = s.out.length := by
  induction n with
  | zero => intro s; rfl
  | succ n ih => intro s; rw [shutN, ih]; unfold shut1; exact setTo_len _ _ _
theorem shutP_len (lv : Nat) (s : LSt) : (shutP lv s).out.length = s.out.length := shutN_len _ _
theorem labGo_len (L : List Item) : ∀ k, (labGo L k).out.length = L.length
  | 0 => by unfold labGo; simp
  | k + 1 => by
    unfold labGo labStep
    rw [setFrom_len, shutP_len, labGo_len L k]
theorem spnCells_set1 (l : List (Int × Int)) (i : Nat) (v : Int) : (spnCells l).set (i * 2 + 1) (.int .i64 v) = spnCells (setTo l i v) := by
  induction l generalizing i with
  | nil => simp [spnCells, setTo]
  | cons a r ih =>
    have e2 : ∀ a r, spnCells (a :: r) = .int .i64 a.1 :: .int .i64 a.2 :: spnCells r := fun _ _ => rfl
    cases i with
    | zero => rw [e2]; rfl
    | succ i =>
      have e : (i + 1) * 2 + 1 = (i * 2 + 1) + 1 + 1 := by omega
      rw [e2, e, List.set_cons_succ, List.set_cons_succ, ih i]
      simp [setTo, e2]
theorem spnCells_set0 (l : List (Int × Int)) (i : Nat) (v : Int) : (spnCells l).set (i * 2) (.int .i64 v) = spnCells (setFrom l i v) := by
  induction l generalizing i with
  | nil => simp [spnCells, setFrom]
  | cons a r ih =>
    have e2 : ∀ a r, spnCells (a :: r) = .int .i64 a.1 :: .int .i64 a.2 :: spnCells r := fun _ _ => rfl
    cases i with
    | zero => rw [e2]; rfl
    | succ i =>
      have e : (i + 1) * 2 = (i * 2) + 1 + 1 := by omega
      rw [e2, e, List.set_cons_succ, List.set_cons_succ, ih i]
      simp [setFrom, e2]
theorem spnCells_setTo (l : List (Int × Int)) (i : Nat) (v : Int) : (spnCells l).toArray.setIfInBounds (i * 2 + 1) (.int .i64 v) = (spnCells (setTo l i v)).toArray := by
  rw [List.setIfInBounds_toArray, spnCells_set1]
theorem spnCells_setFrom (l : List (Int × Int)) (i : Nat) (v : Int) : (spnCells l).toArray.setIfInBounds (i * 2) (.int .i64 v) = (spnCells (setFrom l i v)).toArray := by
  rw [List.setIfInBounds_toArray, spnCells_set0]
theorem shut1_at (s : LSt) (h : 0 < s.opn.length) : (shut1 s).at_ + (shut1 s).opn.length * gapI = s.at_ + s.opn.length * gapI := by
  unfold shut1 gapI
  simp only [List.length_dropLast]
  omega
theorem shutN_at (n : Nat) : ∀ s : LSt, n ≤ s.opn.length → (shutN n s).at_ + (shutN n s).opn.length * gapI = s.at_ + s.opn.length * gapI ∧ (shutN n s).opn.length = s.opn.length - n ∧ s.at_ ≤ (shutN n s).at_ := by
  induction n with
  | zero => intro s _; exact ⟨rfl, rfl, Int.le_refl _⟩
  | succ n ih =>
    intro s h
    have h1 := shut1_at s (by omega)
    have hl : (shut1 s).opn.length = s.opn.length - 1 := by unfold shut1; simp
    have ha : (shut1 s).at_ = s.at_ + gapI := rfl
    obtain ⟨h2, h3, h4⟩ := ih (shut1 s) (by omega)
    rw [shutN]
    refine ⟨h2.trans h1, by rw [h3, hl]; omega, ?_⟩
    rw [ha] at h4
    unfold gapI at h4
    omega
theorem shutP_at (lv : Nat) (s : LSt) : (shutP lv s).at_ + (shutP lv s).opn.length * gapI = s.at_ + s.opn.length * gapI ∧ (shutP lv s).opn.length = min lv s.opn.length ∧ s.at_ ≤ (shutP lv s).at_ := by
  obtain ⟨h1, h2, h3⟩ := shutN_at (s.opn.length - lv) s (by omega)
  exact ⟨h1, by unfold shutP; rw [h2]; omega, h3⟩
theorem labGo_at (L : List Item) : ∀ k, (labGo L k).at_ + (labGo L k).opn.length * gapI = 2 * k * gapI ∧ 0 ≤ (labGo L k).at_
  | 0 => by unfold labGo gapI; simp
  | k + 1 => by
    obtain ⟨h1, h2⟩ := labGo_at L k
    obtain ⟨h3, h4, h5⟩ := shutP_at (L.getD k default).level.toNat (labGo L k)
    unfold labGo labStep
    simp only [List.length_append, List.length_cons, List.length_nil]
    unfold gapI at *
    constructor <;> omega
end Go.Proofs.Ytahdlbckcddeeaa
