/- WALKS OF LAYER 15 (lexicon): New, Add. -/
import Derived.Test.YtoflicfghonhcaaLexA
import Derived.Test.YtoflicfghonhcaaLexF
import Derived.Test.YtoflicfghonhcaaKit2
namespace Go.Proofs.Ytoflicfghonhcaa
open Go.RowKit Go.WideMaps Go.Maps
set_option linter.unusedVariables false
theorem numsAt_new (w : World) : NumsAt (w.alloc (.map #[] 0)) w.heap.size 0 (fun _ => none) 0 :=
  ⟨.map [], World.ownsMap_made _ _ _ _, rfl, fun s => ⟨rfl, rfl⟩⟩
set_option maxRecDepth 100000 in
theorem new_any (w : World) : Calls Try.prog 10 #[] w fun e w' => ∃ p mb, e = .returned (.pointer (some ⟨p, 0, none⟩)) ∧ BookAt w' w.heap.size p (.slice none 0 0) mb 0 [] (fun _ => none) 0 ∧ Below w.heap.size w w' := by
  have hmm := @run_makeMap Try.prog
  go_enter Try.func10, Try.ntmps10
  go_wp2_with fail
  go_ret
  have hb := ((Below.refl w.heap.size w).alloc (Nat.le_refl _) (.map #[] 0)).alloc (by simp) (.cells #[.slice none 0 0, .map (some w.heap.size)] 62 (0, 0))
  refine ⟨w.heap.size + 1, w.heap.size, rfl, ⟨?_, OwnS.nil _ _ _ _, (numsAt_new w).below ((Below.refl _ _).alloc (Nat.le_refl _) _), by omega, by omega⟩, hb⟩
  have := heap_alloc_new (w.alloc (.map #[] 0)) (.cells #[.slice none 0 0, .map (some w.heap.size)] 62 (0, 0))
  simpa using this
def updN (f : ByteArray → Option Nat) (s : ByteArray) (v : Option Nat) : ByteArray → Option Nat := fun x => if x = s then v else f x
theorem updN_same (f : ByteArray → Option Nat) (s : ByteArray) (v : Option Nat) : updN f s v s = v := by unfold updN; rw [if_pos rfl]
theorem updN_other (f : ByteArray → Option Nat) (s x : ByteArray) (v : Option Nat) (h : x ≠ s) : updN f s v x = f x := by unfold updN; rw [if_neg h]
theorem lit_ne {x s : ByteArray} (h : x ≠ s) : (Lit.string x.data.toList) ≠ (Lit.string s.data.toList) := by
  intro e
  apply h
  have e2 : x.data.toList = s.data.toList := by simpa using e
  obtain ⟨⟨a⟩⟩ := x
  obtain ⟨⟨b⟩⟩ := s
  simp only at e2
  rw [e2]
theorem keyLit (s : ByteArray) : WideAt.IsKeyLit (.string s.data.toList) := by simp [WideAt.IsKeyLit]
theorem NumsAt.put {w : World} {mb n : Nat} {f : ByteArray → Option Nat} {cnt : Nat} (h : NumsAt w mb n f cnt) (hn : n < maxLen) (s : ByteArray) (hs : s.size ≤ maxLen) (k : Nat) (hk : k ≤ 1000000) :
    ∃ w', (Instr.mapUpdate 59 (.map (some mb)) (.string s) (.int .i64 (k : Int))).run Try.prog w = .ok () w' ∧ NumsAt w' mb (n + 1) (updN f s (some k)) (if (f s).isSome then cnt else cnt + 1) ∧ w.mapTurned w' mb := by
  obtain ⟨D, ho, hsz, hf⟩ := h
  obtain ⟨w', hrun, ho', ht⟩ := ho.store nameKey Try.underlying59 hn (keyOf_string_mk Try.underlying9 hs) (plainElem_int Try.underlying3 (show (Lit.int .i64 (k : Int)).wf = true from WalkArith.wf_i64 (by omega)))
  refine ⟨w', hrun, ⟨_, ho', ?_, fun x => ?_⟩, ht⟩
  · rw [size_put (ho.tidy nameKey), (hf s).1, hsz]
  · by_cases hx : x = s
    · subst hx
      rw [updN_same, has_put_same ho.isMap (keyLit x), atKey_put_same ho.isMap (keyLit x)]
      exact ⟨rfl, rfl⟩
    · rw [updN_other f s x _ hx, has_put_other (lit_ne hx), atKey_put_other (lit_ne hx)]
      exact hf x
theorem NumsAt.del {w : World} {mb n : Nat} {f : ByteArray → Option Nat} {cnt : Nat} (h : NumsAt w mb n f cnt) (s : ByteArray) (hs : s.size ≤ maxLen) (hin : (f s).isSome = true) (ty : TypeId) :
    ∃ w', (Builtin.delete_ #[59, 9] ty #[.map (some mb), .string s]).run Try.prog w = .ok (.tuple #[]) w' ∧ NumsAt w' mb n (updN f s none) (cnt - 1) ∧ w.mapTurned w' mb := by
  obtain ⟨D, ho, hsz, hf⟩ := h
  obtain ⟨w', hrun, ho', ht⟩ := ho.drop nameKey Try.underlying59 (keyOf_string_mk Try.underlying9 hs) ty
  refine ⟨w', hrun, ⟨_, ho', ?_, fun x => ?_⟩, ht⟩
  · have := size_del (ho.tidy nameKey) (k := .string s.data.toList)
    rw [(hf s).1, hin, if_pos rfl, hsz] at this
    omega
  · by_cases hx : x = s
    · subst hx
      rw [updN_same, has_del_same, atKey_del_same]
      exact ⟨rfl, rfl⟩
    · rw [updN_other f s x _ hx, has_del_other (lit_ne hx), atKey_del_other (lit_ne hx)]
      exact hf x
theorem NumsAt.block {w : World} {mb n : Nat} {f : ByteArray → Option Nat} {cnt : Nat} (h : NumsAt w mb n f cnt) : ∃ es clock, w.heap[mb]? = some (.map es clock) := by
  obtain ⟨D, ⟨es, clock, hh, _⟩, _⟩ := h
  exact ⟨es, clock, hh⟩
theorem NumsAt.same {w w' : World} {mb n : Nat} {f : ByteArray → Option Nat} {cnt : Nat} (h : NumsAt w mb n f cnt) (hb : w'.heap[mb]? = w.heap[mb]?) : NumsAt w' mb n f cnt := by
  obtain ⟨D, ⟨es, clock, hh, r⟩, h2⟩ := h
  exact ⟨D, ⟨es, clock, hb.trans hh, r⟩, h2⟩
/-- A store into an owned row. -/
theorem ownS_store {w : World} {base : Nat} {e : TypeId} {size : Nat} {n g cap : Nat} {xs : List Value} (h : OwnS w base e size (.slice (some ⟨g, 0, none⟩) n cap) n xs) (j : Nat) (u : Value) (hj : j < n * size) : OwnS (w.setCell ⟨g, j, none⟩ u) base e size (.slice (some ⟨g, 0, none⟩) n cap) n (xs.set j u) := by
  obtain ⟨h1, ⟨hv, _⟩ | ⟨g', cap', cur, hv, hg, hh, hc, hm, hs, ht⟩⟩ := h
  · cases hv
  · cases hv
    refine ⟨by rw [List.length_set]; exact h1, .inr ⟨g, cap, cur.setIfInBounds j u, rfl, hg, heap_setCell_same _ _ _ _ _ _ hh, hc, hm, by rw [Array.size_setIfInBounds]; exact hs, ?_⟩⟩
    rw [Array.toList_setIfInBounds, ← ht, List.take_set]
theorem OwnS.same {w w' : World} {base : Nat} {e : TypeId} {size : Nat} {v : Value} {n : Nat} {xs : List Value} (h : OwnS w base e size v n xs) (hk : ∀ (k : Nat) (cur : Array Value), w.heap[k]? = some (Obj.cells cur e (0, 0)) → w'.heap[k]? = w.heap[k]?) : OwnS w' base e size v n xs := by
  obtain ⟨h1, h2 | ⟨g, cap, cur, hv, hg, hh, r⟩⟩ := h
  · exact ⟨h1, .inl h2⟩
  · exact ⟨h1, .inr ⟨g, cap, cur, hv, hg, by rw [hk g cur hh]; exact hh, r⟩⟩
theorem wordCells_set1 (l : List (ByteArray × Nat)) (i n : Nat) : (wordCells l).set (i * 2 + 1) (.int .i64 (n : Int)) = wordCells (l.set i ((l.getD i default).1, n)) := by
  induction l generalizing i with
  | nil => simp [wordCells]
  | cons a r ih =>
    have e2 : ∀ a r, wordCells (a :: r) = .string a.1 :: .int .i64 ((a.2 : Nat) : Int) :: wordCells r := fun _ _ => rfl
    cases i with
    | zero => rw [e2]; rfl
    | succ i =>
      have e : (i + 1) * 2 + 1 = (i * 2 + 1) + 1 + 1 := by omega
      rw [e2, e, List.set_cons_succ, List.set_cons_succ, ih i]
      simp [e2]
theorem wordCells_set2 (l : List (ByteArray × Nat)) (i : Nat) (s : ByteArray) (n : Nat) : ((wordCells l).set (i * 2) (.string s)).set (i * 2 + 1) (.int .i64 (n : Int)) = wordCells (l.set i (s, n)) := by
  induction l generalizing i with
  | nil => simp [wordCells]
  | cons a r ih =>
    have e2 : ∀ a r, wordCells (a :: r) = .string a.1 :: .int .i64 ((a.2 : Nat) : Int) :: wordCells r := fun _ _ => rfl
    cases i with
    | zero => rw [e2]; rfl
    | succ i =>
      have e : (i + 1) * 2 = (i * 2) + 1 + 1 := by omega
      have e' : (i + 1) * 2 + 1 = (i * 2 + 1) + 1 + 1 := by omega
      rw [e2, e', e, List.set_cons_succ, List.set_cons_succ, List.set_cons_succ, List.set_cons_succ, ih i]
      simp [e2]
/-- What a call on a book leaves: all below B, and all rows that are neither books nor words. -/
structure Turns (B : Nat) (w w' : World) : Prop where
  below : Below B w w'
  keeps : ∀ (k : Nat) (cs : Array Value) (t : TypeId) (fr : Nat × Nat), w.heap[k]? = some (.cells cs t fr) → t ≠ 62 → t ≠ 65 → w'.heap[k]? = some (.cells cs t fr)
theorem Turns.refl (B : Nat) (w : World) : Turns B w w := ⟨Below.refl _ _, fun _ _ _ _ h _ _ => h⟩
theorem Turns.trans {B : Nat} {a b c : World} (h : Turns B a b) (k : Turns B b c) : Turns B a c := ⟨h.below.trans k.below, fun i cs t fr hi h1 h2 => k.keeps i cs t fr (h.keeps i cs t fr hi h1 h2) h1 h2⟩
theorem Turns.of {B : Nat} {w w' : World} (h : Below w.heap.size w w') (hB : B ≤ w.heap.size) : Turns B w w' := ⟨h.mono hB, fun k cs t fr hk _ _ => (h.block k (lt_of_block hk)).trans hk⟩
theorem Turns.mono {B B' : Nat} {w w' : World} (h : Turns B w w') (hB : B' ≤ B) : Turns B' w w' := ⟨h.below.mono hB, h.keeps⟩
theorem Turns.setCell {B : Nat} {w w' : World} (h : Turns B w w') {a : Addr} (ha : B ≤ a.block) {cs : Array Value} {t : TypeId} {fr : Nat × Nat} (hr : w'.heap[a.block]? = some (.cells cs t fr)) (ht : t = 62 ∨ t = 65) (v : Value) : Turns B w (w'.setCell a v) :=
  ⟨h.below.setCell ha v, fun k cs' t' fr' hk h1 h2 => by
    have h3 := h.keeps k cs' t' fr' hk h1 h2
    rw [Below.heap_setCell _ _ _ _ (fun e => ?_)]
    · exact h3
    · rw [← e, h3] at hr
      cases hr
      rcases ht with rfl | rfl
      · exact h1 rfl
      · exact h2 rfl⟩
theorem Turns.setCell2 {B : Nat} {w w' : World} (h : Turns B w w') {b : Nat} (ha : B ≤ b) {cs : Array Value} {t : TypeId} (hr : w'.heap[b]? = some (.cells cs t (0, 0))) (ht : t = 62 ∨ t = 65) (i j : Nat) (u v : Value) : Turns B w ((w'.setCell ⟨b, i, none⟩ u).setCell ⟨b, j, none⟩ v) :=
  (h.setCell (a := ⟨b, i, none⟩) ha hr ht u).setCell (a := ⟨b, j, none⟩) ha (heap_setCell_same _ _ _ _ _ _ hr) ht v
theorem Turns.then {B : Nat} {w w' w2 : World} (h : Turns B w w') (hb : Below w'.heap.size w' w2) (hB : B ≤ w.heap.size) : Turns B w w2 := h.trans (Turns.of hb (Nat.le_trans hB h.below.size))
theorem OwnS.turns {B B2 : Nat} {w w' : World} {e : TypeId} {size : Nat} {v : Value} {n : Nat} {xs : List Value} (h : OwnS w B e size v n xs) (ht : Turns B2 w w') (h1 : e ≠ 62) (h2 : e ≠ 65) : OwnS w' B e size v n xs :=
  h.same fun k cur hk => (ht.keeps k cur e (0, 0) hk h1 h2).trans hk.symm
/-- One more use of a word that is there. -/
theorem BookAt.setUses {w : World} {B p g cap : Nat} {mb n : Nat} {ws : List (ByteArray × Nat)} {f : ByteArray → Option Nat} {cnt : Nat} (h : BookAt w B p (.slice (some ⟨g, 0, none⟩) ws.length cap) mb n ws f cnt) (i u : Nat) (hi : i < ws.length) :
    BookAt (w.setCell ⟨g, i * 2 + 1, none⟩ (.int .i64 (u : Int))) B p (.slice (some ⟨g, 0, none⟩) ws.length cap) mb n (ws.set i ((ws.getD i default).1, u)) f cnt := by
  have hown := h.own
  obtain ⟨_, _, cur, hg⟩ := h.own.block g rfl
  obtain ⟨es, clock, hmb⟩ := h.nums.block
  have hpg : p ≠ g := fun e => by subst e; rw [h.row] at hg; simp at hg
  have hmg : mb ≠ g := fun e => by subst e; rw [hmb] at hg; simp at hg
  refine ⟨(Below.heap_setCell _ _ _ _ (by exact hpg)).trans h.row, ?_, h.nums.same (Below.heap_setCell _ _ _ _ (by exact hmg)), h.bp, h.bm⟩
  have := ownS_store h.own (i * 2 + 1) (.int .i64 (u : Int)) (by omega)
  rw [wordCells_set1] at this
  rw [List.length_set]
  exact this
/-- A word laid into a place that is there. -/
theorem BookAt.setWord {w : World} {B p g cap : Nat} {mb n : Nat} {ws : List (ByteArray × Nat)} {f : ByteArray → Option Nat} {cnt : Nat} (h : BookAt w B p (.slice (some ⟨g, 0, none⟩) ws.length cap) mb n ws f cnt) (i : Nat) (s : ByteArray) (u : Nat) (hi : i < ws.length) :
    BookAt ((w.setCell ⟨g, i * 2, none⟩ (.string s)).setCell ⟨g, i * 2 + 1, none⟩ (.int .i64 (u : Int))) B p (.slice (some ⟨g, 0, none⟩) ws.length cap) mb n (ws.set i (s, u)) f cnt := by
  obtain ⟨_, _, cur, hg⟩ := h.own.block g rfl
  obtain ⟨es, clock, hmb⟩ := h.nums.block
  have hpg : p ≠ g := fun e => by subst e; rw [h.row] at hg; simp at hg
  have hmg : mb ≠ g := fun e => by subst e; rw [hmb] at hg; simp at hg
  refine ⟨(Below.heap_setCell _ _ _ _ (by exact hpg)).trans ((Below.heap_setCell _ _ _ _ (by exact hpg)).trans h.row), ?_, h.nums.same ((Below.heap_setCell _ _ _ _ (by exact hmg)).trans (Below.heap_setCell _ _ _ _ (by exact hmg))), h.bp, h.bm⟩
  have := ownS_store (ownS_store h.own (i * 2) (.string s) (by omega)) (i * 2 + 1) (.int .i64 (u : Int)) (by omega)
  rw [wordCells_set2] at this
  rw [List.length_set]
  exact this
/-- Behind a write into the map. -/
theorem BookAt.turned {w w' : World} {B p : Nat} {vw : Value} {mb n n' : Nat} {ws : List (ByteArray × Nat)} {f f' : ByteArray → Option Nat} {cnt cnt' : Nat} (h : BookAt w B p vw mb n ws f cnt) (ht : w.mapTurned w' mb) (hn : NumsAt w' mb n' f' cnt') : BookAt w' B p vw mb n' ws f' cnt' ∧ Turns B w w' := by
  obtain ⟨es, clock, hmb⟩ := h.nums.block
  have hg := ht.grown
  have hpm : p ≠ mb := fun e => by subst e; have := h.row; rw [hmb] at this; simp at this
  refine ⟨⟨(hg.block _ (lt_of_block h.row) (by simpa using hpm)).trans h.row, h.own.same fun k cur hk => hg.block k (lt_of_block hk) (fun e => ?_), hn, h.bp, h.bm⟩, ?_⟩
  · cases e
    rw [hmb] at hk
    simp at hk
  · refine ⟨(Below.refl B w).grown hg (by have := lt_of_block hmb; have := h.bm; omega) (fun k hk => by cases hk; exact h.bm), fun k cs t fr hk _ _ => (hg.block k (lt_of_block hk) (fun e => ?_)).trans hk⟩
    cases e
    rw [hmb] at hk
    simp at hk
theorem two_new (w : World) (x y : Value) (e : TypeId) (j : Nat) (u : Value) (h : [x, y][j]? = some u) : (w.alloc (.cells #[x, y] e (0, 0))).cell? ((⟨w.heap.size, 0, none⟩ : Addr).add j) = some u := by
  match j, h with
  | 0, h => simpa [go_sem] using h
  | 1, h => simpa [go_sem] using h
theorem free_row {w : World} {b : Nat} {cs : Array Value} {t : TypeId} (h : w.heap[b]? = some (.cells cs t (0, 0))) (i : Nat) : w.frozen? ⟨b, i, none⟩ = false := by simp [World.frozen?, h]
theorem infoWord : (Try.prog.info? 65).map (fun i => (i.zero, i.size, i.bytes)) = some (some (.agg #[.string ByteArray.empty, .int .i64 0]), 2, 24) := by kernel_rfl
/-- Behind an append of words, before and behind it is laid into the book. -/
theorem BookAt.grown {w w' : World} {B p : Nat} {vw : Value} {mb n : Nat} {ws : List (ByteArray × Nat)} {f : ByteArray → Option Nat} {cnt : Nat} (h : BookAt w B p vw mb n ws f cnt) (hg : w.grownBy w' vw.ownBlock) :
    w'.heap[p]? = some (.cells #[vw, .map (some mb)] 62 (0, 0)) ∧ NumsAt w' mb n f cnt := by
  obtain ⟨es, clock, hmb⟩ := h.nums.block
  have hne : ∀ k, some k = vw.ownBlock → ∃ cur, w.heap[k]? = some (.cells cur 65 (0, 0)) := fun k hk => (h.own.block k hk.symm).2.2
  refine ⟨(hg.block _ (lt_of_block h.row) fun e => ?_).trans h.row, h.nums.same (hg.block _ (lt_of_block hmb) fun e => ?_)⟩
  · obtain ⟨cur, hc⟩ := hne p e
    have := h.row
    rw [hc] at this
    simp at this
  · obtain ⟨cur, hc⟩ := hne mb e
    rw [hc] at hmb
    simp at hmb
theorem BookAt.pushW {w w' : World} {B p : Nat} {vw v' : Value} {mb n : Nat} {ws ws' : List (ByteArray × Nat)} {f : ByteArray → Option Nat} {cnt : Nat} (h : BookAt w B p vw mb n ws f cnt) (hg : w.grownBy w' vw.ownBlock) (hown : OwnS w' B 65 2 v' ws'.length (wordCells ws')) :
    BookAt (w'.setCell ⟨p, 0, none⟩ v') B p v' mb n ws' f cnt := by
  obtain ⟨h1, h2⟩ := h.grown hg
  obtain ⟨es, clock, hmb⟩ := h2.block
  refine ⟨?_, hown.same fun k cur hk => Below.heap_setCell _ _ _ _ ?_, h2.same (Below.heap_setCell _ _ _ _ ?_), h.bp, h.bm⟩
  · rw [heap_setCell_same _ _ _ _ _ _ h1]; rfl
  · intro e
    dsimp only at e
    subst e
    rw [h1] at hk
    simp at hk
  · intro e
    dsimp only at e
    subst e
    rw [h1] at hmb
    simp at hmb
theorem BookAt.gRow {w : World} {B p g cap j : Nat} {mb n : Nat} {ws : List (ByteArray × Nat)} {f : ByteArray → Option Nat} {cnt : Nat} (h : BookAt w B p (.slice (some ⟨g, 0, none⟩) j cap) mb n ws f cnt) : ∃ cs, w.heap[g]? = some (.cells cs 65 (0, 0)) := (h.own.block g rfl).2.2
theorem Turns.grownBy {B p : Nat} {w0 w w' : World} {vw : Value} {mb n : Nat} {ws : List (ByteArray × Nat)} {f : ByteArray → Option Nat} {cnt : Nat} (ht : Turns B w0 w) (h : BookAt w B p vw mb n ws f cnt) (hg : w.grownBy w' vw.ownBlock) : Turns B w0 w' := by
  have hB : B ≤ w.heap.size := by have := lt_of_block h.row; have := h.bp; omega
  refine ⟨below_grown ht.below h.own hg hB (Nat.le_refl _), fun k cs t fr hk h1 h2 => ?_⟩
  have h3 := ht.keeps k cs t fr hk h1 h2
  refine (hg.block k (lt_of_block h3) fun e => ?_).trans h3
  obtain ⟨cur, hc⟩ := (h.own.block k e.symm).2.2
  rw [h3] at hc
  cases hc
  exact h2 rfl
end Go.Proofs.Ytoflicfghonhcaa
