/- THE PLAIN SIDE OF LAYER 14 (spans). -/
import Derived.Test.YtahdlbckcddeeaaGlyphPlain
namespace Go.Proofs.Ytahdlbckcddeeaa
open Go.RowKit
def insideB (n : Int) : Bool := decide (0 ≤ n ∧ n ≤ 4611686018427387904)
/-- Does a lie in b; does a stand ahead of b. -/
def inB (a b : Int × Int) : Bool := decide (b.1 < a.1 ∧ a.2 < b.2)
def aheadB (a b : Int × Int) : Bool := decide (a.2 < b.1)

/-- What stays open when x comes: the innermost one stands last. -/
def popL (x : Int × Int) (o : List (Int × Int)) : List (Int × Int) := (o.reverse.dropWhile (fun t => aheadB t x)).reverse
theorem popL_nil (x : Int × Int) : popL x [] = [] := rfl
theorem popL_yes (x t : Int × Int) (o : List (Int × Int)) (h : aheadB t x = true) : popL x (o ++ [t]) = popL x o := by
  simp [popL, h]
theorem popL_no (x t : Int × Int) (o : List (Int × Int)) (h : aheadB t x = false) : popL x (o ++ [t]) = o ++ [t] := by
  simp [popL, h]
theorem popL_len (x : Int × Int) (o : List (Int × Int)) : (popL x o).length ≤ o.length := by
  unfold popL
  rw [List.length_reverse]
  have := (List.dropWhile_sublist (fun t => aheadB t x) (l := o.reverse)).length_le
  simpa using this

/-- May x stand there: behind 'prev', in what is open. -/
def okSpan (s : List (Int × Int)) (k : Nat) (o : List (Int × Int)) : Bool :=
  (insideB (s.getD k default).1 && insideB (s.getD k default).2) && decide ((s.getD k default).1 < (s.getD k default).2) &&
  decide (k = 0 ∨ (s.getD (k - 1) default).1 < (s.getD k default).1) && (match o.getLast? with | none => true | some t => inB (s.getD k default) t)
def levelsGo (s : List (Int × Int)) : Nat → Nat → List (Int × Int) → List Int → Option (List Int)
  | 0, _, _, out => some out
  | m + 1, k, o, out => if okSpan s k (popL (s.getD k default) o) then levelsGo s m (k + 1) (popL (s.getD k default) o ++ [s.getD k default]) (out ++ [((popL (s.getD k default) o).length : Int)]) else none
theorem levelsGo_no (s : List (Int × Int)) (k : Nat) (o : List (Int × Int)) (out : List Int) (hk : k < s.length) (h : okSpan s k (popL (s.getD k default) o) = false) : levelsGo s (s.length - k) k o out = none := by
  obtain ⟨m, hm⟩ : ∃ m, s.length - k = m + 1 := ⟨s.length - k - 1, by omega⟩
  rw [hm, levelsGo, h]
  rfl
theorem levelsGo_yes (s : List (Int × Int)) (k : Nat) (o : List (Int × Int)) (out : List Int) (hk : k < s.length) (h : okSpan s k (popL (s.getD k default) o) = true) : levelsGo s (s.length - k) k o out = levelsGo s (s.length - (k + 1)) (k + 1) (popL (s.getD k default) o ++ [s.getD k default]) (out ++ [((popL (s.getD k default) o).length : Int)]) := by
  obtain ⟨m, hm⟩ : ∃ m, s.length - k = m + 1 := ⟨s.length - k - 1, by omega⟩
  rw [hm, levelsGo, h, if_pos rfl, show s.length - (k + 1) = m by omega]
theorem ok_in (s : List (Int × Int)) (k : Nat) (o : List (Int × Int)) (h : false = (insideB (s.getD k default).1 && insideB (s.getD k default).2)) : okSpan s k o = false := by
  unfold okSpan; rw [← h]; rfl
theorem ok_lt (s : List (Int × Int)) (k : Nat) (o : List (Int × Int)) (h : (s.getD k default).2 ≤ (s.getD k default).1) : okSpan s k o = false := by
  unfold okSpan
  rw [decide_eq_false (p := (s.getD k default).1 < (s.getD k default).2) (by omega)]
  simp
theorem ok_prev (s : List (Int × Int)) (i : Nat) (o : List (Int × Int)) (h : (s.getD (i + 1) default).1 ≤ (s.getD i default).1) : okSpan s (i + 1) o = false := by
  unfold okSpan
  rw [decide_eq_false (p := i + 1 = 0 ∨ (s.getD (i + 1 - 1) default).1 < (s.getD (i + 1) default).1) (by rw [Nat.add_sub_cancel]; omega)]
  simp
theorem ok_last (s : List (Int × Int)) (k : Nat) (o : List (Int × Int)) (t : Int × Int) (h : inB (s.getD k default) t = false) : okSpan s k (o ++ [t]) = false := by
  have e : (o ++ [t]).getLast? = some t := by simp
  unfold okSpan
  rw [e]
  show (_ && inB (s.getD k default) t) = false
  rw [h, Bool.and_false]
theorem ok_yes (s : List (Int × Int)) (k : Nat) (o : List (Int × Int)) (h1 : true = (insideB (s.getD k default).1 && insideB (s.getD k default).2)) (h2 : ¬ (s.getD k default).2 ≤ (s.getD k default).1) (h3 : k = 0 ∨ (s.getD (k - 1) default).1 < (s.getD k default).1) (h4 : ∀ t p, o = p ++ [t] → inB (s.getD k default) t = true) : okSpan s k o = true := by
  unfold okSpan
  rw [← h1, decide_eq_true (p := (s.getD k default).1 < (s.getD k default).2) (by omega), decide_eq_true h3]
  rcases List.eq_nil_or_concat o with rfl | ⟨p, t, rfl⟩
  · rfl
  · have e : (p.concat t).getLast? = some t := by simp
    rw [e]
    exact h4 t p (by rw [List.concat_eq_append])
def levelsP (s : List (Int × Int)) : Option (List Int) := levelsGo s s.length 0 [] []

/-- The cells of a row of spans. -/
def spnCells (o : List (Int × Int)) : List Value := o.flatMap (fun p => [.int .i64 p.1, .int .i64 p.2])
theorem spnCells_len (o : List (Int × Int)) : (spnCells o).length = o.length * 2 := by
  induction o with
  | nil => rfl
  | cons a r ih => simp only [spnCells, List.flatMap_cons, List.length_append, List.length_cons, List.length_nil] at ih ⊢; omega
theorem spnCells_append (o p : List (Int × Int)) : spnCells (o ++ p) = spnCells o ++ spnCells p := by simp [spnCells]
theorem spnCells_take (o : List (Int × Int)) (k : Nat) : (spnCells o).take (k * 2) = spnCells (o.take k) := by
  induction o generalizing k with
  | nil => simp [spnCells]
  | cons a r ih =>
    cases k with
    | zero => simp [spnCells]
    | succ k =>
      have e : (k + 1) * 2 = k * 2 + 1 + 1 := by omega
      have e2 : spnCells (a :: r) = .int .i64 a.1 :: .int .i64 a.2 :: spnCells r := rfl
      rw [e2, e, List.take_succ_cons, List.take_succ_cons, ih k, List.take_succ_cons]
      rfl
theorem spnCells_at (o : List (Int × Int)) (k : Nat) (h : k < o.length) : (spnCells o)[k * 2]? = some (.int .i64 (o.getD k default).1) ∧ (spnCells o)[k * 2 + 1]? = some (.int .i64 (o.getD k default).2) := by
  induction o generalizing k with
  | nil => simp at h
  | cons a r ih =>
    have e2 : spnCells (a :: r) = .int .i64 a.1 :: .int .i64 a.2 :: spnCells r := rfl
    cases k with
    | zero => rw [e2]; exact ⟨rfl, rfl⟩
    | succ k =>
      have e : (k + 1) * 2 = k * 2 + 1 + 1 := by omega
      have := ih k (by simpa using h)
      rw [e2, e]
      simpa using this
end Go.Proofs.Ytahdlbckcddeeaa
