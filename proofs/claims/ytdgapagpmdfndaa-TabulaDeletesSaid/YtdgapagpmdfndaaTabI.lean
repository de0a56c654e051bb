/- LAYER 13 (tabula): a table: New, Len, Depth, halves. -/
import Derived.Test.YtdgapagpmdfndaaTabH
namespace Go.Proofs.Ytdgapagpmdfndaa
open Go.RowKit
set_option linter.unusedVariables false
/-- A table (block t) with the part k. -/
structure TabAt (w : World) (B lo h t : Nat) (k : Kid) : Prop where
  row : w.heap[t]? = some (.cells #[.pointer (some ⟨k.p, 0, none⟩)] 61 (0, 0))
  tree : TreeAt w B lo h k
  no : ¬ k.F t
  bt : B ≤ t
  e8 : k.e ≤ 8
  pos : h = 0 ∨ 2 ≤ k.e
  srt : Sorted k.L
  many : k.L.length ≤ 900000
def tabF (t : Nat) (k : Kid) : Nat → Prop := fun x => x = t ∨ k.F x
theorem TabAt.lt {w : World} {B lo h t : Nat} {k : Kid} (a : TabAt w B lo h t k) (x : Nat) (hx : tabF t k x) : x < w.heap.size ∧ B ≤ x := by
  rcases hx with rfl | hx
  · exact ⟨lt_of_block a.row, a.bt⟩
  · exact a.tree.lt x hx
theorem TabAt.keep {w w' : World} {B lo h t : Nat} {k : Kid} (a : TabAt w B lo h t k) (hk : ∀ x, tabF t k x → w'.heap[x]? = w.heap[x]?) : TabAt w' B lo h t k :=
  ⟨(hk t (.inl rfl)).trans a.row, a.tree.keep fun x hx => hk x (.inr hx), a.no, a.bt, a.e8, a.pos, a.srt, a.many⟩
theorem TabAt.below {w w' : World} {B lo h t : Nat} {k : Kid} (a : TabAt w B lo h t k) (hb : Below w.heap.size w w') : TabAt w' B lo h t k := a.keep fun x hx => hb.block x (a.lt x hx).1
theorem TabAt.frm {w w' : World} {B lo h t : Nat} {k : Kid} {F : Nat → Prop} (a : TabAt w B lo h t k) (hf : Frm F w w') (hno : ∀ x, tabF t k x → ¬ F x) : TabAt w' B lo h t k := a.keep fun x hx => hf.block x (a.lt x hx).1 (hno x hx)
theorem TabAt.mono {w : World} {B lo lo' h t : Nat} {k : Kid} (hlo : lo' ≤ lo) (a : TabAt w B lo h t k) : TabAt w B lo' h t k := ⟨a.row, a.tree.mono hlo, a.no, a.bt, a.e8, a.pos, a.srt, a.many⟩
theorem TabAt.cell {w : World} {B lo h t : Nat} {k : Kid} (a : TabAt w B lo h t k) : w.cell? ⟨t, 0, none⟩ = some (.pointer (some ⟨k.p, 0, none⟩)) := by
  rw [cell_of_row w t 0 _ _ _ a.row]; rfl
theorem new_leaf (w : World) (B lo : Nat) (hB : B ≤ w.heap.size) : TreeAt (w.alloc (.cells #[.slice none 0 0, .slice none 0 0, .int .i64 0] 59)) B lo 0 ⟨w.heap.size, 0, [], nodeF w.heap.size (.slice none 0 0) (.slice none 0 0)⟩ :=
  ⟨.slice none 0 0, .slice none 0 0, ⟨heap_alloc_new _ _, OwnS.nil _ _ _ _, OwnS.nil _ _ _ _, hB⟩, rfl, rfl⟩
theorem nil_F {p x : Nat} (h : nodeF p (.slice none 0 0) (.slice none 0 0) x) : x = p := by
  rcases h with h | h | h
  · exact h
  · cases h
  · cases h
theorem new_any (w : World) (B lo : Nat) (hB : B ≤ w.heap.size) :
    Calls Try.prog 10 #[] w fun e w' => ∃ (t : Nat) (k : Kid), e = .returned (.pointer (some ⟨t, 0, none⟩)) ∧ TabAt w' B lo 0 t k ∧ k.L = [] ∧ (∀ x, tabF t k x → w.heap.size ≤ x) ∧ Below w.heap.size w w' := by
  go_enter Try.func10, Try.ntmps10
  go_wp2_with fail
  go_ret
  refine ⟨w.heap.size + 1, ⟨w.heap.size, 0, [], nodeF w.heap.size (.slice none 0 0) (.slice none 0 0)⟩, rfl, ⟨?_, ?_, ?_, ?_, ?_, .inl rfl, List.Pairwise.nil, Nat.zero_le _⟩, rfl, ?_, ?_⟩
  · have := heap_alloc_new (w.alloc (.cells #[.slice none 0 0, .slice none 0 0, .int .i64 0] 59)) (.cells #[.pointer (some ⟨w.heap.size, 0, none⟩)] 61)
    simpa using this
  · exact (new_leaf w B lo hB).below ((Below.refl _ _).alloc (Nat.le_refl _) _)
  · intro h
    have := nil_F h
    omega
  · omega
  · exact Nat.zero_le _
  · intro x hx
    rcases hx with rfl | hx
    · exact Nat.le_succ _
    · rw [nil_F hx]; exact Nat.le_refl _
  · exact ((Below.refl _ _).alloc (Nat.le_refl _) _).alloc (by simp) _
set_option maxRecDepth 100000 in
theorem len_any {w : World} {B lo h t : Nat} {k : Kid} (a : TabAt w B lo h t k) :
    Calls Try.prog 21 #[.pointer (some ⟨t, 0, none⟩)] w fun e w' => e = .returned (.int .i64 (k.L.length : Nat)) ∧ w' = w := by
  have c1 := a.cell
  have c2 := a.tree.cell
  clear a
  go_enter Try.func21, Try.ntmps21
  go_wp2_with fail
  go_ret
  exact ⟨rfl, rfl⟩
theorem hgt_of' {w : World} {B lo : Nat} (hlo : 1 ≤ lo) {h : Nat} {k : Kid} (f : Nat) (t : TreeAt w B lo h k) (h1 : h = 0 ∨ 1 ≤ k.e) (hf : h ≤ f) : hgt w f k.p = h := by
  rcases h1 with rfl | h1
  · obtain ⟨rv, sv, hn, _, _⟩ := t
    cases f with
    | zero => rfl
    | succ f =>
      rw [hgt, hn.cells.2.1]
      rcases hn.ss.2 with ⟨rfl, _⟩ | ⟨g, cap, cur, rfl, _⟩
      · rfl
      · rfl
  · exact hgt_of hlo f t h1 hf
set_option maxRecDepth 100000 in
set_option maxHeartbeats 2000000 in
theorem depth_any {w : World} {B lo h t : Nat} {k : Kid} (hlo : 1 ≤ lo) (a : TabAt w B lo h t k) (hh : h ≤ 1000000) :
    Calls Try.prog 32 #[.pointer (some ⟨t, 0, none⟩)] w fun e w' => e = .returned (.int .i64 ((h + 1 : Nat) : Int)) ∧ w' = w := by
  have c1 := a.cell
  have HA := Lib.hid a
  have HC : Hid (TreeAt w B lo h k ∧ (h = 0 ∨ 1 ≤ k.e)) := Lib.hid ⟨a.tree, a.pos.imp id (by omega)⟩
  clear a
  go_enter Try.func32, Try.ntmps32
  go_wp2_with fail
  go_loopw [3, 4] (fun n p wr => ∃ (d : Nat) (c : Kid), p = .pointer (some ⟨c.p, 0, none⟩) ∧ d ≤ h ∧ n = .int .i64 ((h - d + 1 : Nat) : Int) ∧ Hid (TreeAt w B lo d c ∧ (d = 0 ∨ 1 ≤ c.e)) ∧ w = wr) (fun _ p _ => hgt w h (blockOf p))
  case atStart => exact ⟨h, k, rfl, Nat.le_refl _, by rw [Nat.sub_self]; rfl, HC, rfl⟩
  case round =>
    obtain ⟨d, c, rfl, hd, rfl, HC, rfl⟩ := hrel
    obtain ⟨t, c1⟩ := HC.out
    have HM := Lib.hid (hgt_of' hlo h t c1 hd)
    cases d with
    | zero =>
      obtain ⟨rv, sv, hn, he, _⟩ := t
      obtain ⟨a0, a1, a2⟩ := hn.cells
      obtain ⟨sa, sc, rfl⟩ := hn.ss.len
      have a1 : w.cell? ⟨c.p, 1, none⟩ = some (.slice sa 0 sc) := a1
      clear hn c1 he
      go_wp2_with fail
      go_ret
      refine ⟨rfl, ?_⟩
      all_goals first | rfl | trivial
    | succ d =>
      obtain ⟨rv, sv, ks, hn, he, hL, _, hc, _⟩ := t
      have c1 : 1 ≤ c.e := by rcases c1 with h | h; cases h; exact h
      obtain ⟨a0, a1, a2⟩ := hn.cells
      obtain ⟨n, hnn⟩ : ∃ n, ks.length = n + 1 := ⟨ks.length - 1, by omega⟩
      have hss := hn.ss
      rw [kidsP_len, hnn] at hss
      obtain ⟨g, cap, rfl, _, hg, _⟩ := hss.shape (by omega)
      have d1 := hss.cellAt 0 (by omega)
      rw [ptrCells_at _ 0 (by rw [kidsP_len]; omega), kidsP_at _ _ (by omega)] at d1
      obtain ⟨c', hc'⟩ : ∃ c', c' = ks.getD 0 default := ⟨_, rfl⟩
      have hmem : c' ∈ ks := by rw [hc']; exact getD_mem _ _ (by omega)
      rw [← hc'] at d1
      have hcc := hc c' hmem
      have HC2 : Hid (TreeAt w B lo d c' ∧ (d = 0 ∨ 1 ≤ c'.e)) := Lib.hid ⟨hcc.1, .inr (Nat.le_trans hlo hcc.2.1)⟩
      have z2 : (0 : Int) < ((n + 1 : Nat) : Int) := by omega
      have hm2 := Lib.hid (hgt_of' hlo h HC2.out.1 HC2.out.2 (by omega))
      clear hn c1 hnn he hcc hc hL hc' hmem hss
      go_wp2_with fail
      go_roundw
      case rel => exact ⟨d, c', rfl, by omega, by go_num, HC2, trivial⟩
      case measure =>
        show hgt w h c'.p < hgt w h c.p
        rw [hm2.out, HM.out]
        exact Nat.lt_succ_self _
/-- How often a number can be halved till it is 0; at most f times. -/
def halvesF : Nat → Nat → Nat
  | 0, _ => 0
  | f + 1, n => if n = 0 then 0 else halvesF f (n / 2) + 1
theorem halvesF_any : ∀ (f g n : Nat), n ≤ f → n ≤ g → halvesF f n = halvesF g n
  | 0, 0, n, _, _ => rfl
  | 0, g + 1, n, hf, _ => by
    have h : n = 0 := by omega
    simp [halvesF, h]
  | f + 1, 0, n, _, hg => by
    have h : n = 0 := by omega
    simp [halvesF, h]
  | f + 1, g + 1, n, hf, hg => by
    by_cases h : n = 0
    · simp [halvesF, h]
    · simp only [halvesF, if_neg h]
      rw [halvesF_any f g (n / 2) (by omega) (by omega)]
def halvesN (n : Nat) : Nat := halvesF n n
theorem halvesN_step (n : Nat) (h : 0 < n) : halvesN n = halvesN (n / 2) + 1 := by
  unfold halvesN
  cases n with
  | zero => omega
  | succ m =>
    simp only [halvesF, if_neg (Nat.succ_ne_zero m)]
    rw [halvesF_any m ((m + 1) / 2) ((m + 1) / 2) (by omega) (Nat.le_refl _)]
theorem halvesN_zero : halvesN 0 = 0 := rfl
theorem halvesN_le (n : Nat) : halvesN n ≤ n := by
  induction n using Nat.strongRecOn with
  | _ n ih =>
    by_cases h : n = 0
    · subst h; rw [halvesN_zero]; exact Nat.le_refl _
    · rw [halvesN_step n (by omega)]
      have := ih (n / 2) (by omega)
      omega
set_option maxRecDepth 100000 in
set_option maxHeartbeats 1000000 in
theorem halves_any (n : Nat) (hn : n ≤ 1000000) (w : World) :
    Calls Try.prog 48 #[.int .i64 (n : Int)] w fun e w' => e = .returned (.int .i64 (halvesN n : Nat)) ∧ w' = w := by
  obtain ⟨r, hr⟩ : ∃ r, r = halvesN n := ⟨_, rfl⟩
  rw [← hr]
  have HR := Lib.hid hr
  have hrl : r ≤ 1000000 := by rw [hr]; exact Nat.le_trans (halvesN_le n) hn
  clear hr
  go_enter Try.func48, Try.ntmps48
  go_wp2_with fail
  go_loopw [0, 3] (fun a b wr => ∃ m k : Nat, m ≤ n ∧ k ≤ r ∧ Hid (r = halvesN m + k) ∧ a = .int .i64 (m : Int) ∧ b = .int .i64 (k : Int) ∧ w = wr) (fun a _ _ => (intOf a).toNat)
  case atStart => exact ⟨n, 0, Nat.le_refl _, Nat.zero_le _, HR, rfl, rfl, rfl⟩
  case round =>
    obtain ⟨m, k, hm, hk, HK, rfl, rfl, rfl⟩ := hrel
    by_cases h0 : 0 < m
    · have hst := HK.out
      rw [halvesN_step m h0] at hst
      have hk1 : k + 1 ≤ r := by omega
      have HK2 : Hid (r = halvesN (m / 2) + (k + 1)) := Lib.hid (by omega)
      obtain ⟨q, hq⟩ : ∃ q, q = m / 2 := ⟨_, rfl⟩
      have hqi : (m : Int) / 2 = (q : Int) := by omega
      have hql : q < m := by omega
      rw [← hq] at HK2
      clear hst hq
      go_wp2_with fail
      go_roundw
      case rel => exact ⟨q, k + 1, by omega, hk1, HK2, by go_num, by go_num, trivial⟩
      case measure => simp [intOf]; omega
    · obtain rfl : m = 0 := by omega
      have hkr : r = k := by have := HK.out; rw [halvesN_zero] at this; omega
      subst hkr
      go_wp2_with fail
      go_ret
      refine ⟨rfl, ?_⟩
      all_goals first | rfl | trivial
set_option maxRecDepth 100000 in
set_option maxHeartbeats 1000000 in
theorem dhalves_any (n : Nat) (hn : n ≤ 1000000) (w : World) :
    Calls Try.prog 33 #[.int .i64 (n : Int)] w fun e w' => e = .returned (.int .i64 (halvesN n : Nat)) ∧ w' = w := by
  obtain ⟨r, hr⟩ : ∃ r, r = halvesN n := ⟨_, rfl⟩
  rw [← hr]
  have HR := Lib.hid hr
  have hrl : r ≤ 1000000 := by rw [hr]; exact Nat.le_trans (halvesN_le n) hn
  clear hr
  go_enter Try.func33, Try.ntmps33
  go_wp2_with fail
  go_loopw [0, 3] (fun a b wr => ∃ m k : Nat, m ≤ n ∧ k ≤ r ∧ Hid (r = halvesN m + k) ∧ a = .int .i64 (m : Int) ∧ b = .int .i64 (k : Int) ∧ w = wr) (fun a _ _ => (intOf a).toNat)
  case atStart => exact ⟨n, 0, Nat.le_refl _, Nat.zero_le _, HR, rfl, rfl, rfl⟩
  case round =>
    obtain ⟨m, k, hm, hk, HK, rfl, rfl, rfl⟩ := hrel
    by_cases h0 : 0 < m
    · have hst := HK.out
      rw [halvesN_step m h0] at hst
      have hk1 : k + 1 ≤ r := by omega
      have HK2 : Hid (r = halvesN (m / 2) + (k + 1)) := Lib.hid (by omega)
      obtain ⟨q, hq⟩ : ∃ q, q = m / 2 := ⟨_, rfl⟩
      have hqi : (m : Int) / 2 = (q : Int) := by omega
      have hql : q < m := by omega
      rw [← hq] at HK2
      clear hst hq
      go_wp2_with fail
      go_roundw
      case rel => exact ⟨q, k + 1, by omega, hk1, HK2, by go_num, by go_num, trivial⟩
      case measure => simp [intOf]; omega
    · obtain rfl : m = 0 := by omega
      have hkr : r = k := by have := HK.out; rw [halvesN_zero] at this; omega
      subst hkr
      go_wp2_with fail
      go_ret
      refine ⟨rfl, ?_⟩
      all_goals first | rfl | trivial
end Go.Proofs.Ytdgapagpmdfndaa
