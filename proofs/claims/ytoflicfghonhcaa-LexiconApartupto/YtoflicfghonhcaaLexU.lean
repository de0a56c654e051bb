/- LAYER 15 (lexicon): the calls on a book whose words are the document's. -/
import Derived.Test.YtoflicfghonhcaaLexT
namespace Go.Proofs.Ytoflicfghonhcaa
open Go.RowKit Go.WideMaps Go.Maps
set_option linter.unusedVariables false
/-- A book (block p) whose words are l. -/
def BookL (w : World) (B p K : Nat) (ws : WS) (l : List DW) : Prop := ∃ vw mb n f, BookAt w B p vw mb n ws f l.length ∧ Rel K ws f l ∧ n ≤ K ∧ ∀ x ∈ l, x.1.size ≤ maxLen
theorem BookL.below {w w' : World} {B p K : Nat} {ws : WS} {l : List DW} (h : BookL w B p K ws l) (hb : Below w.heap.size w w') : BookL w' B p K ws l := by
  obtain ⟨vw, mb, n, f, h1, h2⟩ := h
  exact ⟨vw, mb, n, f, h1.below hb, h2⟩
theorem BookL.mono {w : World} {B p K K' : Nat} {ws : WS} {l : List DW} (h : BookL w B p K ws l) (hK : K ≤ K') : BookL w B p K' ws l := by
  obtain ⟨vw, mb, n, f, h1, h2, h3, h4⟩ := h
  exact ⟨vw, mb, n, f, h1, h2.mono hK, Nat.le_trans h3 hK, h4⟩
theorem BookL.lt {w : World} {B p K : Nat} {ws : WS} {l : List DW} (h : BookL w B p K ws l) : p < w.heap.size ∧ B ≤ p ∧ B ≤ w.heap.size := by
  obtain ⟨vw, mb, n, f, h1, h2⟩ := h
  have := lt_of_block h1.row
  have := h1.bp
  omega
theorem BookL.docs {w : World} {B p K : Nat} {ws : WS} {l : List DW} (h : BookL w B p K ws l) : l.length ≤ K ∧ (∀ i, i < l.length → (l.getD i default).2.2 ≤ K) ∧ IsLeast l (freeW ws) ∧ Uniq l ∧ (∀ x ∈ l, 0 < x.2.2) ∧ freeW ws ≤ K + 1 := by
  obtain ⟨vw, mb, n, f, h1, h2, h3⟩ := h
  refine ⟨h2.size, fun i hi => h2.uses _ (getD_mem l i hi), h2.least, h2.uniq, h2.pos, ?_⟩
  obtain ⟨i, e, hi, _⟩ := freeW_spec ws
  have := h2.len
  omega
theorem place_name {K : Nat} {ws : WS} {f : ByteArray → Option Nat} {l : List DW} (h : Rel K ws f l) (s : ByteArray) :
    (placeD (nameAt s) l = -1 ∧ f s = none) ∨ ∃ j n u, j < l.length ∧ placeD (nameAt s) l = (j : Int) ∧ l.getD j default = (s, n, u) ∧ (s, n, u) ∈ l ∧ f s = some n := by
  rcases placeD_spec (nameAt s) l with ⟨h1, h2⟩ | ⟨j, h1, h2, h3⟩
  · refine .inl ⟨h1, ?_⟩
    cases hf : f s with
    | none => rfl
    | some k =>
      obtain ⟨u, hu⟩ := (h.num s k).1 hf
      obtain ⟨j, hj, e⟩ := List.getElem_of_mem hu
      have := h2 j hj
      have e2 : l.getD j default = (s, k, u) := by rw [← e]; simp [hj]
      rw [e2] at this
      simp [nameAt] at this
  · have hm := getD_mem l j h1
    generalize hx : l.getD j default = x at *
    obtain ⟨s', n, u⟩ := x
    have e : s' = s := by simpa [nameAt] using h3
    subst e
    exact .inr ⟨j, n, u, h1, h2, hx, hm, (h.num _ _).2 ⟨u, hm⟩⟩
theorem place_num {K : Nat} {ws : WS} {f : ByteArray → Option Nat} {l : List DW} (h : Rel K ws f l) (q : Int) :
    (placeD (numAt q) l = -1 ∧ atW ws q = (ByteArray.empty, 0)) ∨ ∃ (j : Nat) (s : ByteArray) (n u : Nat), j < l.length ∧ placeD (numAt q) l = (j : Int) ∧ l.getD j default = (s, n, u) ∧ (s, n, u) ∈ l ∧ q = (n : Int) ∧ atW ws q = (s, u) := by
  rcases placeD_spec (numAt q) l with ⟨h1, h2⟩ | ⟨j, h1, h2, h3⟩
  · refine .inl ⟨h1, ?_⟩
    unfold atW
    split
    · rfl
    · rename_i hq
      have hq1 : ¬ q < 1 := fun e => hq (.inl e)
      have hq2 : ¬ (ws.length : Int) < q := fun e => hq (.inr e)
      refine h.hole _ (Nat.eq_zero_of_not_pos fun hp => ?_)
      have hin := (h.mem ((ws.getD (q.toNat - 1) default).1, q.toNat, (ws.getD (q.toNat - 1) default).2)).2 ⟨by dsimp only; omega, rfl, hp⟩
      obtain ⟨j, hj, e⟩ := List.getElem_of_mem hin
      have := h2 j hj
      have e2 : l.getD j default = ((ws.getD (q.toNat - 1) default).1, q.toNat, (ws.getD (q.toNat - 1) default).2) := by rw [← e]; simp [hj]
      rw [e2] at this
      simp only [numAt, decide_eq_false_iff_not] at this
      omega
  · have hm := getD_mem l j h1
    generalize hx : l.getD j default = x at *
    obtain ⟨s, n, u⟩ := x
    have e : (n : Int) = q := by simpa [numAt] using h3
    subst e
    refine .inr ⟨j, s, n, u, h1, h2, hx, hm, rfl, ?_⟩
    have hr := (h.mem _).1 hm
    have hl := h.lt hm
    dsimp only at hr hl
    unfold atW
    rw [if_neg (by omega), Int.toNat_natCast]
    exact hr.2.1
theorem find_f {K : Nat} {ws : WS} {f : ByteArray → Option Nat} {l : List DW} (h : Rel K ws f l) (s : ByteArray) : findD l s = ((((f s).getD 0 : Nat) : Int), (f s).isSome) := by
  rcases place_name h s with ⟨h1, h2⟩ | ⟨j, n, u, h1, h2, h3, h4, h5⟩
  · unfold findD; rw [if_pos (by omega), h2]; rfl
  · unfold findD; rw [if_neg (by omega), h2, h5, Int.toNat_natCast, h3]; rfl
theorem name_at {K : Nat} {ws : WS} {f : ByteArray → Option Nat} {l : List DW} (h : Rel K ws f l) (q : Int) : nameD l q = ((atW ws q).1, decide (0 < (atW ws q).2)) := by
  rcases place_num h q with ⟨h1, h2⟩ | ⟨j, s, n, u, h1, h2, h3, h4, h5, h6⟩
  · unfold nameD; rw [if_pos (by omega), h2]; rfl
  · unfold nameD; rw [if_neg (by omega), h2, h6, Int.toNat_natCast, h3]
    have := h.pos _ h4
    simp at this ⊢
    exact this
theorem uses_at {K : Nat} {ws : WS} {f : ByteArray → Option Nat} {l : List DW} (h : Rel K ws f l) (q : Int) : usesD l q = (((atW ws q).2 : Nat) : Int) := by
  rcases place_num h q with ⟨h1, h2⟩ | ⟨j, s, n, u, h1, h2, h3, h4, h5, h6⟩
  · unfold usesD; rw [if_pos (by omega), h2]; rfl
  · unfold usesD; rw [if_neg (by omega), h2, h6, Int.toNat_natCast, h3]
/-- The document's Add, where N is the least number that is free. -/
noncomputable def addD (N : Nat) (l : List DW) (s : ByteArray) : List DW × Int × Int :=
  if nameP s.data.toList = false then (l, 0, 63)
  else if 0 ≤ placeD (nameAt s) l then (turnD l (l.getD (placeD (nameAt s) l).toNat default).2.1 1, ((l.getD (placeD (nameAt s) l).toNat default).2.1 : Int), 0)
  else if 4000 ≤ l.length then (l, 0, 150)
  else (l ++ [(s, N, 1)], (N : Int), 0)
def dropT (l : List DW) (q : Int) : List DW × Bool := if placeD (numAt q) l < 0 then (l, false) else (turnD l q.toNat (-1), true)
theorem len_L {w : World} {B p K : Nat} {ws : WS} {l : List DW} (h : BookL w B p K ws l) : Calls Try.prog 13 #[.pointer (some ⟨p, 0, none⟩)] w fun e w' => e = .returned (.int .i64 (l.length : Int)) ∧ w' = w := by
  obtain ⟨vw, mb, n, f, h1, h2⟩ := h
  exact len_any _ _ _ _ _ _ _ _ _ h1
theorem find_L {w : World} {B p K : Nat} {ws : WS} {l : List DW} (h : BookL w B p K ws l) (s : ByteArray) (hs : s.size ≤ maxLen) : Calls Try.prog 15 #[.pointer (some ⟨p, 0, none⟩), .string s] w fun e w' => e = .returned (.tuple #[.int .i64 (findD l s).1, .bool (findD l s).2]) ∧ w' = w := by
  obtain ⟨vw, mb, n, f, h1, h2, _⟩ := h
  rw [find_f h2]
  exact find_any _ _ _ _ _ _ _ _ _ h1 s hs
theorem name_L {w : World} {B p K : Nat} {ws : WS} {l : List DW} (h : BookL w B p K ws l) (hK : K ≤ 100000) (q : Int) : Calls Try.prog 17 #[.pointer (some ⟨p, 0, none⟩), .int .i64 q] w fun e w' => e = .returned (.tuple #[.string (nameD l q).1, .bool (nameD l q).2]) ∧ Below w.heap.size w w' := by
  obtain ⟨vw, mb, n, f, h1, h2, _⟩ := h
  rw [name_at h2]
  have := h2.len
  exact bname_any _ _ _ _ _ _ _ _ _ h1 (by omega) q
theorem uses_L {w : World} {B p K : Nat} {ws : WS} {l : List DW} (h : BookL w B p K ws l) (hK : K ≤ 100000) (q : Int) : Calls Try.prog 19 #[.pointer (some ⟨p, 0, none⟩), .int .i64 q] w fun e w' => e = .returned (.int .i64 (usesD l q)) ∧ Below w.heap.size w w' := by
  obtain ⟨vw, mb, n, f, h1, h2, _⟩ := h
  rw [uses_at h2]
  have := h2.len
  exact uses_any _ _ _ _ _ _ _ _ _ h1 (by omega) q
theorem new_L (w : World) : Calls Try.prog 10 #[] w fun e w' => ∃ p, e = .returned (.pointer (some ⟨p, 0, none⟩)) ∧ BookL w' w.heap.size p 0 [] [] ∧ Below w.heap.size w w' := by
  refine (new_any w).mono ?_
  rintro e w' ⟨p, mb, rfl, h1, h2⟩
  exact ⟨p, rfl, ⟨_, mb, 0, _, h1, Rel.nil 0, Nat.le_refl _, fun x hx => by cases hx⟩, h2⟩
theorem add_L {w : World} {B p K : Nat} {ws : WS} {l : List DW} (h : BookL w B p K ws l) (hK : K ≤ 50000) (s : ByteArray) (hs : s.size ≤ maxLen) :
    Calls Try.prog 12 #[.pointer (some ⟨p, 0, none⟩), .string s] w fun e w' => e = .returned (.tuple #[.int .i64 (addD (freeW ws) l s).2.1, .int .i64 (addD (freeW ws) l s).2.2]) ∧ (∃ ws', BookL w' B p (K + 1) ws' (addD (freeW ws) l s).1) ∧ Turns B w w' := by
  have hlt := h.lt
  have hh := h
  obtain ⟨vw, mb, n, f, h1, h2, h3, h4⟩ := h
  have hlen := h2.len
  cases hn : nameP s.data.toList with
  | false =>
    have e : addD (freeW ws) l s = (l, 0, 63) := by unfold addD; rw [if_pos hn]
    rw [e]
    refine (add_bad _ _ _ _ _ _ _ _ _ h1 s hs hn).mono ?_
    rintro e w' ⟨rfl, hb⟩
    exact ⟨rfl, ⟨ws, (hh.below hb).mono (by omega)⟩, Turns.of hb hlt.2.2⟩
  | true =>
    rcases place_name h2 s with ⟨g1, g2⟩ | ⟨j, k, u, g1, g2, g3, g4, g5⟩
    · by_cases hf : 4000 ≤ l.length
      · have e : addD (freeW ws) l s = (l, 0, 150) := by unfold addD; rw [if_neg (by simp [hn]), if_neg (by omega), if_pos hf]
        rw [e]
        refine (add_full _ _ _ _ _ _ _ _ _ h1 s hs hn g2 hf).mono ?_
        rintro e w' ⟨rfl, hb⟩
        exact ⟨rfl, ⟨ws, (hh.below hb).mono (by omega)⟩, Turns.of hb hlt.2.2⟩
      · have e : addD (freeW ws) l s = (l ++ [(s, freeW ws, 1)], (freeW ws : Int), 0) := by unfold addD; rw [if_neg (by simp [hn]), if_neg (by omega), if_neg hf]
        rw [e]
        obtain ⟨i, hi, hil, _⟩ := freeW_spec ws
        have h4' : ∀ x ∈ l ++ [(s, freeW ws, 1)], x.1.size ≤ maxLen := fun x hx => by
          rcases List.mem_append.1 hx with hx | hx
          · exact h4 x hx
          · obtain rfl := List.mem_singleton.1 hx; exact hs
        rw [hi] at h4' ⊢
        by_cases hlt2 : i < ws.length
        · refine (add_free _ _ _ _ _ _ _ _ _ h1 s hs hn g2 (by omega) (by omega) i hi hlt2 (by omega)).mono ?_
          rintro e w' ⟨rfl, hb, ht⟩
          exact ⟨rfl, ⟨_, _, mb, n + 1, _, by simpa using hb, h2.newFree s i hn g2 hi hlt2, by omega, h4'⟩, ht⟩
        · refine (add_grow _ _ _ _ _ _ _ _ _ h1 s hs hn g2 (by omega) (by omega) i hi (by omega) (by omega)).mono ?_
          rintro e w' ⟨rfl, ⟨v', hb⟩, ht⟩
          exact ⟨rfl, ⟨_, v', mb, n + 1, _, by simpa using hb, h2.newGrow s i hn g2 hi (by omega), by omega, h4'⟩, ht⟩
    · have e : addD (freeW ws) l s = (turnD l k 1, (k : Int), 0) := by unfold addD; rw [if_neg (by simp [hn]), if_pos (by omega), g2, Int.toNat_natCast, g3]
      rw [e]
      have hr := (h2.mem _).1 g4
      have hil := h2.lt g4
      have hus := h2.uses _ g4
      dsimp only at hr hil hus
      obtain ⟨i, rfl⟩ : ∃ i, k = i + 1 := ⟨k - 1, by omega⟩
      rw [Nat.add_sub_cancel] at hr hil
      refine (add_there _ _ _ _ _ _ _ _ _ h1 s hs hn i u g5 hil (by omega) (by rw [hr.2.1]) (by omega)).mono ?_
      rintro e w' ⟨rfl, hb, ht⟩
      rw [hr.2.1] at hb
      dsimp only at hb
      have hl := turnD_len h2.uniq g4 1
      rw [if_pos (by omega)] at hl
      refine ⟨rfl, ⟨_, _, mb, n, _, by rw [hl]; exact hb, ?_, by omega, fun x hx => ?_⟩, ht⟩
      · have := h2.turn g4 1 (u' := u + 1) (by omega) (by omega) (K' := K + 1) (by omega) (by omega)
        rw [Nat.add_sub_cancel] at this
        exact this
      · rcases (mem_turnD h2.uniq g4 1 x).1 hx with ⟨hx, _⟩ | ⟨_, rfl⟩
        · exact h4 x hx
        · exact hs
theorem drop_L {w : World} {B p K : Nat} {ws : WS} {l : List DW} (h : BookL w B p K ws l) (hK : K ≤ 50000) (q : Int) :
    Calls Try.prog 28 #[.pointer (some ⟨p, 0, none⟩), .int .i64 q] w fun e w' => e = .returned (.bool (dropT l q).2) ∧ (∃ ws', BookL w' B p K ws' (dropT l q).1) ∧ Turns B w w' := by
  have hlt := h.lt
  have hh := h
  obtain ⟨vw, mb, n, f, h1, h2, h3, h4⟩ := h
  have hlen := h2.len
  rcases place_num h2 q with ⟨g1, g2⟩ | ⟨j, s, k, u, g1, g2, g3, g4, rfl, g6⟩
  · have e : dropT l q = (l, false) := by unfold dropT; rw [if_pos (by omega)]
    rw [e]
    refine (drop_no _ _ _ _ _ _ _ _ _ h1 (by omega) q (by rw [g2])).mono ?_
    rintro e w' ⟨rfl, hb⟩
    exact ⟨rfl, ⟨ws, hh.below hb⟩, Turns.of hb hlt.2.2⟩
  · have e : dropT l (k : Int) = (turnD l k (-1), true) := by unfold dropT; rw [if_neg (by omega), Int.toNat_natCast]
    rw [e]
    have hr := (h2.mem _).1 g4
    have hil := h2.lt g4
    have hus := h2.uses _ g4
    have hsz := h4 _ g4
    have hfn := (h2.num _ _).2 ⟨u, g4⟩
    dsimp only at hr hil hus hsz hfn
    have h4' : ∀ x ∈ turnD l k (-1), x.1.size ≤ maxLen := fun x hx => by
      rcases (mem_turnD h2.uniq g4 (-1) x).1 hx with ⟨hx, _⟩ | ⟨_, rfl⟩
      · exact h4 x hx
      · exact hsz
    obtain ⟨i, rfl⟩ : ∃ i, k = i + 1 := ⟨k - 1, by omega⟩
    rw [Nat.add_sub_cancel] at hr hil
    have hl := turnD_len h2.uniq g4 (-1)
    by_cases hu : u = 1
    · subst hu
      rw [if_neg (by omega)] at hl
      refine (drop_last _ _ _ _ _ _ _ _ _ h1 (by omega) i s hil hr.2.1 hsz (by rw [hfn]; rfl)).mono ?_
      rintro e w' ⟨rfl, ⟨v', hb⟩, ht⟩
      refine ⟨rfl, ⟨_, v', mb, n, _, by rw [hl]; exact hb, ?_, h3, h4'⟩, ht⟩
      have := h2.gone g4
      rw [Nat.add_sub_cancel] at this
      exact this
    · obtain ⟨v, rfl⟩ : ∃ v, u = v + 2 := ⟨u - 2, by omega⟩
      rw [if_pos (by omega)] at hl
      refine (drop_more _ _ _ _ _ _ _ _ _ h1 (by omega) i v hil (by rw [hr.2.1]) (by omega)).mono ?_
      rintro e w' ⟨rfl, hb, ht⟩
      rw [hr.2.1] at hb
      dsimp only at hb
      refine ⟨rfl, ⟨_, _, mb, n, _, by rw [hl]; exact hb, ?_, h3, h4'⟩, ht⟩
      have := h2.turn g4 (-1) (u' := v + 1) (by omega) (by omega) (K' := K) (by omega) (by omega)
      rw [Nat.add_sub_cancel] at this
      exact this
/-- The document's side of a call. -/
theorem radd_L {w : World} {B : Nat} {v : Value} {l : List DW} {K N : Nat} (h : DocAt w B v l) (hB : B ≤ w.heap.size) (hK : K ≤ 50000) (hl : l.length ≤ K) (hu : ∀ i, i < l.length → (l.getD i default).2.2 ≤ K) (hN : IsLeast l N) (hNK : N ≤ K + 1) (hq : Uniq l) (hp : ∀ x ∈ l, 0 < x.2.2) (s : ByteArray) (hs : s.size ≤ 35184372088832) :
    Calls Try.prog 43 #[v, .string s] w fun e w' => ∃ v', e = .returned (.tuple #[v', .int .i64 (addD N l s).2.1, .int .i64 (addD N l s).2.2]) ∧ DocAt w' B v' (addD N l s).1 ∧ Below w.heap.size w w' := by
  cases hn : nameP s.data.toList with
  | false =>
    have e : addD N l s = (l, 0, 63) := by unfold addD; rw [if_pos hn]
    rw [e]
    refine (radd_bad _ _ _ _ h s hs hn).mono ?_
    rintro e w' ⟨rfl, hb⟩
    exact ⟨v, rfl, h.below hb, hb⟩
  | true =>
    rcases placeD_spec (nameAt s) l with ⟨g1, g2⟩ | ⟨j, g1, g2, g3⟩
    · by_cases hf : 4000 ≤ l.length
      · have e : addD N l s = (l, 0, 150) := by unfold addD; rw [if_neg (by simp [hn]), if_neg (by omega), if_pos hf]
        rw [e]
        refine (radd_full _ _ _ _ h s hs hn g1 (by omega) hf).mono ?_
        rintro e w' ⟨rfl, hb⟩
        exact ⟨v, rfl, h.below hb, hb⟩
      · have e : addD N l s = (l ++ [(s, N, 1)], (N : Int), 0) := by unfold addD; rw [if_neg (by simp [hn]), if_neg (by omega), if_neg hf]
        rw [e]
        refine radd_new _ _ _ _ h hB s hs hn g1 (by omega) N hN.pos (by omega) ?_ fun n hn1 hn2 => ?_
        · rcases placeD_spec (numAt (N : Int)) l with ⟨q1, _⟩ | ⟨j, q1, q2, q3⟩
          · exact q1
          · have hm := hN.free _ (getD_mem l j q1)
            simp only [numAt, decide_eq_true_eq] at q3
            omega
        · rcases placeD_spec (numAt (n : Int)) l with ⟨q1, q2⟩ | ⟨j, q1, q2, q3⟩
          · obtain ⟨x, hx, hxn⟩ := hN.least n hn1 hn2
            obtain ⟨j, hj, e⟩ := List.getElem_of_mem hx
            have := q2 j hj
            have e2 : l.getD j default = x := by rw [← e]; simp [hj]
            rw [e2] at this
            simp only [numAt, decide_eq_false_iff_not] at this
            omega
          · exact ⟨j, q2⟩
    · have e : addD N l s = (turnD l (l.getD j default).2.1 1, ((l.getD j default).2.1 : Int), 0) := by unfold addD; rw [if_neg (by simp [hn]), if_pos (by omega), g2, Int.toNat_natCast]
      rw [e, ← usedD_turn hq hp j g1 1]
      exact radd_there _ _ _ _ h hB s hs hn j g1 g2 (by omega) fun i hi => by have := hu i hi; omega
theorem dropD_T {l : List DW} (hq : Uniq l) (hp : ∀ x ∈ l, 0 < x.2.2) (q : Int) : dropD l q = dropT l q := by
  unfold dropD dropT
  rcases placeD_spec (numAt q) l with ⟨g1, g2⟩ | ⟨j, g1, g2, g3⟩
  · rw [if_pos (by omega), if_pos (by omega)]
  · rw [if_neg (by omega), if_neg (by omega), g2, usedD_turn hq hp j g1 (-1)]
    simp only [numAt, decide_eq_true_eq] at g3
    rw [← g3, Int.toNat_natCast]
end Go.Proofs.Ytoflicfghonhcaa
