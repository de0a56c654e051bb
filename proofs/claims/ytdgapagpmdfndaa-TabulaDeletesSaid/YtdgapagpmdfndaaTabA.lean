/- LAYER 13 (tabula): what a part of a table holds in memory, and what lies below it. -/
import Derived.Test.YtdgapagpmdfndaaRows
import Derived.Test.YtdgapagpmdfndaaTabK
namespace Go.Proofs.Ytdgapagpmdfndaa
open Go.RowKit
set_option linter.unusedVariables false
abbrev Row := Int × Int
def rowCells (l : List Row) : List Value := l.flatMap (fun x => [.int .i64 x.1, .int .i64 x.2])
theorem rowCells_len (o : List Row) : (rowCells o).length = o.length * 2 := by
  induction o with
  | nil => rfl
  | cons a r ih => simp only [rowCells, List.flatMap_cons, List.length_append, List.length_cons, List.length_nil] at ih ⊢; omega
theorem rowCells_append (o p : List Row) : rowCells (o ++ p) = rowCells o ++ rowCells p := by simp [rowCells]
theorem rowCells_at (o : List Row) (k : Nat) (h : k < o.length) : (rowCells o)[k * 2]? = some (.int .i64 (o.getD k default).1) ∧ (rowCells o)[k * 2 + 1]? = some (.int .i64 (o.getD k default).2) := by
  induction o generalizing k with
  | nil => simp at h
  | cons a r ih =>
    have e2 : rowCells (a :: r) = .int .i64 a.1 :: .int .i64 a.2 :: rowCells r := rfl
    cases k with
    | zero => rw [e2]; exact ⟨rfl, rfl⟩
    | succ k =>
      have e : (k + 1) * 2 = k * 2 + 1 + 1 := by omega
      have := ih k (by simpa using h)
      rw [e2, e]
      simpa using this
theorem rowCells_one (l : List Row) : ∀ u ∈ rowCells l, u.oneCell' = true := by
  intro u hu
  obtain ⟨x, _, hx⟩ := List.mem_flatMap.1 hu
  simp at hx
  rcases hx with rfl | rfl <;> rfl
theorem rowCells_take (l : List Row) (k : Nat) : (rowCells l).take (k * 2) = rowCells (l.take k) := by
  by_cases hk : k ≤ l.length
  · rw [show l = l.take k ++ l.drop k by simp, rowCells_append, List.take_append_of_le_length (by rw [rowCells_len, List.length_take]; omega)]
    rw [List.take_of_length_le (by rw [rowCells_len, List.length_take]; omega)]
    simp
  · rw [List.take_of_length_le (by rw [rowCells_len]; omega), List.take_of_length_le (by omega)]
theorem rowCells_drop (l : List Row) (k : Nat) : (rowCells l).drop (k * 2) = rowCells (l.drop k) := by
  by_cases hk : k ≤ l.length
  · have e : rowCells l = rowCells (l.take k) ++ rowCells (l.drop k) := by rw [← rowCells_append, List.take_append_drop]
    rw [e, List.drop_append_of_le_length (by rw [rowCells_len, List.length_take]; omega), List.drop_of_length_le (by rw [rowCells_len, List.length_take]; omega)]
    simp
  · rw [List.drop_of_length_le (by rw [rowCells_len]; omega), List.drop_of_length_le (by omega)]
    rfl
def ptrV (q : Nat) : Value := .pointer (some ⟨q, 0, none⟩)
def ptrCells (l : List Nat) : List Value := l.map ptrV
theorem ptrCells_len (o : List Nat) : (ptrCells o).length = o.length := by simp [ptrCells]
theorem ptrCells_append (o p : List Nat) : ptrCells (o ++ p) = ptrCells o ++ ptrCells p := by simp [ptrCells]
theorem ptrCells_at (o : List Nat) (k : Nat) (h : k < o.length) : (ptrCells o)[k]? = some (.pointer (some ⟨o.getD k default, 0, none⟩)) := by simp [ptrCells, ptrV, h]
theorem ptrCells_one (l : List Nat) : ∀ u ∈ ptrCells l, u.oneCell' = true := by
  intro u hu
  obtain ⟨x, _, rfl⟩ := List.mem_map.1 hu
  rfl
/-- A part (block p): its rows, the parts below it, the number that it tells. -/
structure NodeAt (w : World) (B p : Nat) (rv sv : Value) (rows : List Row) (subs : List Nat) (m : Int) : Prop where
  row : w.heap[p]? = some (.cells #[rv, sv, .int .i64 m] 59 (0, 0))
  rs : OwnS w B 68 2 rv rows.length (rowCells rows)
  ss : OwnS w B 55 1 sv subs.length (ptrCells subs)
  bp : B ≤ p
/-- The blocks of a part itself. -/
def nodeF (p : Nat) (rv sv : Value) : Nat → Prop := fun x => x = p ∨ rv.ownBlock = some x ∨ sv.ownBlock = some x
theorem NodeAt.lt {w : World} {B p : Nat} {rv sv : Value} {rows : List Row} {subs : List Nat} {m : Int} (h : NodeAt w B p rv sv rows subs m) (x : Nat) (hx : nodeF p rv sv x) : x < w.heap.size ∧ B ≤ x := by
  rcases hx with rfl | hx | hx
  · exact ⟨lt_of_block h.row, h.bp⟩
  · have := h.rs.block x hx; exact ⟨this.2.1, this.1⟩
  · have := h.ss.block x hx; exact ⟨this.2.1, this.1⟩
theorem NodeAt.keep {w w' : World} {B p : Nat} {rv sv : Value} {rows : List Row} {subs : List Nat} {m : Int} (h : NodeAt w B p rv sv rows subs m) (hk : ∀ x, nodeF p rv sv x → w'.heap[x]? = w.heap[x]?) : NodeAt w' B p rv sv rows subs m :=
  ⟨(hk p (.inl rfl)).trans h.row, h.rs.keep fun r hr => hk r (.inr (.inl hr)), h.ss.keep fun r hr => hk r (.inr (.inr hr)), h.bp⟩
theorem NodeAt.cells {w : World} {B p : Nat} {rv sv : Value} {rows : List Row} {subs : List Nat} {m : Int} (h : NodeAt w B p rv sv rows subs m) : w.cell? ⟨p, 0, none⟩ = some rv ∧ w.cell? ⟨p, 1, none⟩ = some sv ∧ w.cell? ⟨p, 2, none⟩ = some (.int .i64 m) := by
  refine ⟨?_, ?_, ?_⟩
  · rw [cell_of_row w p 0 _ _ _ h.row]; rfl
  · rw [cell_of_row w p 1 _ _ _ h.row]; rfl
  · rw [cell_of_row w p 2 _ _ _ h.row]; rfl
/-- A part with all that lies below it: its block, how many rows or parts it has, all its rows, all its blocks. -/
structure Kid where
  p : Nat
  e : Nat
  L : List Row
  F : Nat → Prop
def kidsL (ks : List Kid) : List Row := ks.flatMap (·.L)
def kidsP (ks : List Kid) : List Nat := ks.map (·.p)
def kidsF (ks : List Kid) : Nat → Prop := fun x => ∃ c ∈ ks, c.F x
def Apart (ks : List Kid) : Prop := ks.Pairwise (fun a b => ∀ x, a.F x → ¬ b.F x)
instance : Inhabited Kid := ⟨⟨0, 0, [], fun _ => False⟩⟩
def TreeAt (w : World) (B lo : Nat) : Nat → Kid → Prop
  | 0, k => ∃ rv sv, NodeAt w B k.p rv sv k.L [] (k.L.length : Int) ∧ k.e = k.L.length ∧ k.F = nodeF k.p rv sv
  | h + 1, k => ∃ rv sv ks, NodeAt w B k.p rv sv [] (kidsP ks) (k.L.length : Int) ∧ k.e = ks.length ∧ k.L = kidsL ks ∧ k.F = (fun x => nodeF k.p rv sv x ∨ kidsF ks x) ∧
      (∀ c ∈ ks, TreeAt w B lo h c ∧ lo ≤ c.e ∧ c.e ≤ 8) ∧ Apart ks ∧ (∀ x, nodeF k.p rv sv x → ¬ kidsF ks x)
theorem TreeAt.lt {w : World} {B lo : Nat} : ∀ {h : Nat} {k : Kid}, TreeAt w B lo h k → ∀ x, k.F x → x < w.heap.size ∧ B ≤ x
  | 0, k, ⟨rv, sv, hn, _, hF⟩, x, hx => by rw [hF] at hx; exact hn.lt x hx
  | h + 1, k, ⟨rv, sv, ks, hn, _, _, hF, hk, _⟩, x, hx => by
    rw [hF] at hx
    rcases hx with hx | ⟨c, hc, hx⟩
    · exact hn.lt x hx
    · exact TreeAt.lt (hk c hc).1 x hx
theorem TreeAt.keep {w w' : World} {B lo : Nat} : ∀ {h : Nat} {k : Kid}, TreeAt w B lo h k → (∀ x, k.F x → w'.heap[x]? = w.heap[x]?) → TreeAt w' B lo h k
  | 0, k, ⟨rv, sv, hn, he, hF⟩, hk => ⟨rv, sv, hn.keep fun x hx => hk x (by rw [hF]; exact hx), he, hF⟩
  | h + 1, k, ⟨rv, sv, ks, hn, he, hL, hF, hc, hap, hno⟩, hk =>
    ⟨rv, sv, ks, hn.keep fun x hx => hk x (by rw [hF]; exact .inl hx), he, hL, hF, fun c hcm => ⟨TreeAt.keep (hc c hcm).1 fun x hx => hk x (by rw [hF]; exact .inr ⟨c, hcm, hx⟩), (hc c hcm).2⟩, hap, hno⟩
theorem TreeAt.below {w w' : World} {B lo h : Nat} {k : Kid} (t : TreeAt w B lo h k) (hb : Below w.heap.size w w') : TreeAt w' B lo h k := t.keep fun x hx => hb.block x (t.lt x hx).1
theorem TreeAt.frm {w w' : World} {B lo h : Nat} {k : Kid} {F : Nat → Prop} (t : TreeAt w B lo h k) (hf : Frm F w w') (hno : ∀ x, k.F x → ¬ F x) : TreeAt w' B lo h k := t.keep fun x hx => hf.block x (t.lt x hx).1 (hno x hx)
theorem TreeAt.own {w : World} {B lo : Nat} : ∀ {h : Nat} {k : Kid}, TreeAt w B lo h k → k.F k.p
  | 0, k, ⟨rv, sv, _, _, hF⟩ => by rw [hF]; exact .inl rfl
  | h + 1, k, ⟨rv, sv, ks, _, _, _, hF, _⟩ => by rw [hF]; exact .inl (.inl rfl)
theorem TreeAt.mono {w : World} {B lo lo' : Nat} (hlo : lo' ≤ lo) : ∀ {h : Nat} {k : Kid}, TreeAt w B lo h k → TreeAt w B lo' h k
  | 0, k, t => t
  | h + 1, k, ⟨rv, sv, ks, hn, he, hL, hF, hc, r⟩ => ⟨rv, sv, ks, hn, he, hL, hF, fun c hcm => ⟨TreeAt.mono hlo (hc c hcm).1, Nat.le_trans hlo (hc c hcm).2.1, (hc c hcm).2.2⟩, r⟩
/-- What has something has a row. -/
theorem TreeAt.pos {w : World} {B lo : Nat} (hlo : 1 ≤ lo) : ∀ {h : Nat} {k : Kid}, TreeAt w B lo h k → 1 ≤ k.e → k.L ≠ []
  | 0, k, ⟨rv, sv, _, he, _⟩, h1 => fun e => by rw [e] at he; simp at he; omega
  | h + 1, k, ⟨rv, sv, ks, _, he, hL, _, hc, _⟩, h1 => fun e => by
    match ks, he with
    | [], he => simp at he; omega
    | c :: r, _ =>
      have := TreeAt.pos hlo (hc c (by simp)).1 (Nat.le_trans hlo (hc c (by simp)).2.1)
      rw [hL] at e
      simp [kidsL] at e
      exact this e.1
theorem TreeAt.zero {w : World} {B lo : Nat} : ∀ {h : Nat} {k : Kid}, TreeAt w B lo h k → k.e = 0 → k.L = []
  | 0, k, ⟨rv, sv, _, he, _⟩, h1 => List.eq_nil_of_length_eq_zero (by omega)
  | h + 1, k, ⟨rv, sv, ks, _, he, hL, _, hc, _⟩, h1 => by
    obtain rfl := List.eq_nil_of_length_eq_zero (by omega : ks.length = 0)
    rw [hL]; rfl
/-- Enough rows for the height. -/
theorem kidsL_len {w : World} {B lo h N : Nat} (hN : ∀ k : Kid, TreeAt w B lo h k → lo ≤ k.e → N ≤ k.L.length) : ∀ (ks : List Kid), (∀ c ∈ ks, TreeAt w B lo h c ∧ lo ≤ c.e ∧ c.e ≤ 8) → ks.length * N ≤ (kidsL ks).length
  | [], _ => by simp [kidsL]
  | c :: r, hc => by
    have h1 := hN c (hc c (by simp)).1 (hc c (by simp)).2.1
    have h2 := kidsL_len hN r fun d hd => hc d (by simp [hd])
    simp only [kidsL, List.flatMap_cons, List.length_append, List.length_cons] at h2 ⊢
    rw [Nat.add_mul]
    omega
theorem TreeAt.many {w : World} {B lo : Nat} : ∀ {h : Nat} {k : Kid}, TreeAt w B lo h k → k.e * lo ^ h ≤ k.L.length
  | 0, k, ⟨rv, sv, _, he, _⟩ => by simp [he]
  | h + 1, k, ⟨rv, sv, ks, _, he, hL, _, hc, _⟩ => by
    have := kidsL_len (N := lo ^ (h + 1)) (h := h) (fun c hc1 hc2 => by
      have := TreeAt.many hc1
      rw [Nat.pow_succ, Nat.mul_comm]
      exact Nat.le_trans (Nat.mul_le_mul_right _ hc2) this) ks hc
    rw [he, hL]
    exact this
end Go.Proofs.Ytdgapagpmdfndaa
