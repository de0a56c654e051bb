/- LAYER 15 (lexicon): a call on a book, and on the document's words; scripts of calls. -/
import Derived.Test.YtoflicfghonhcaaLexV
namespace Go.Proofs.Ytoflicfghonhcaa
open Go.RowKit Go.WideMaps Go.Maps
set_option linter.unusedVariables false
abbrev LOp := Int × Int × ByteArray
noncomputable def stepD (N : Nat) (l : List DW) (o : LOp) : List DW × Int × Int :=
  if o.1 = 0 then addD N l o.2.2 else if o.1 = 1 then ((dropT l o.2.1).1, 0, if (dropT l o.2.1).2 = true then 0 else 1) else (l, 0, 0)
theorem stepD_add (N : Nat) (l : List DW) (n : Int) (s : ByteArray) : stepD N l (0, n, s) = addD N l s := by unfold stepD; rw [if_pos rfl]
theorem stepD_drop (N : Nat) (l : List DW) (n : Int) (s : ByteArray) : stepD N l (1, n, s) = ((dropT l n).1, 0, if (dropT l n).2 = true then 0 else 1) := by unfold stepD; rw [if_neg (by simp), if_pos rfl]
theorem stepD_no (N : Nat) (l : List DW) (k n : Int) (s : ByteArray) (h0 : k ≠ 0) (h1 : k ≠ 1) : stepD N l (k, n, s) = (l, 0, 0) := by unfold stepD; rw [if_neg h0, if_neg h1]
def opV (o : LOp) : Value := .agg #[.int .i64 o.1, .int .i64 o.2.1, .string o.2.2]
set_option maxRecDepth 100000 in
set_option maxHeartbeats 1000000 in
theorem does_L {w : World} {B p K : Nat} {ws : WS} {l : List DW} (h : BookL w B p K ws l) (hK : K ≤ 50000) (o : LOp) (hs : o.2.2.size ≤ maxLen) :
    Calls Try.prog 24 #[.pointer (some ⟨p, 0, none⟩), opV o] w fun e w' => e = .returned (.tuple #[.int .i64 (stepD (freeW ws) l o).2.1, .int .i64 (stepD (freeW ws) l o).2.2]) ∧ (∃ ws', BookL w' B p (K + 1) ws' (stepD (freeW ws) l o).1) ∧ Turns B w w' := by
  obtain ⟨kd, n, s⟩ := o
  unfold opV
  dsimp only at hs ⊢
  have hB := h.lt.2.2
  have hbx : Below w.heap.size w (w.alloc (.cells #[.int .i64 kd, .int .i64 n, .string s] 51)) := (Below.refl _ _).alloc (Nat.le_refl _) _
  have HB := Lib.hid (h.below hbx)
  by_cases h0 : kd = 0
  · subst h0
    have HA := Lib.hid (add_L HB.out hK s hs)
    rw [stepD_add]
    clear h
    go_enter Try.func24, Try.ntmps24
    go_wp2_with fail
    refine HA.out.mono ?_
    rintro e w1 ⟨rfl, H1, ht⟩
    have H1 := Lib.hid H1
    go_wp2_with fail
    go_ret2
    exact ⟨rfl, H1.out, (Turns.of hbx hB).trans ht⟩
  · by_cases h1 : kd = 1
    · subst h1
      have HA := Lib.hid (drop_L HB.out hK n)
      rw [stepD_drop]
      generalize dropT l n = r at *
      obtain ⟨l', b⟩ := r
      clear h
      cases b with
      | true =>
        rw [if_pos rfl]
        go_enter Try.func24, Try.ntmps24
        go_wp2_with fail
        refine HA.out.mono ?_
        rintro e w1 ⟨rfl, ⟨ws1, H1⟩, ht⟩
        have H1 := Lib.hid H1
        go_wp2_with fail
        go_ret2
        exact ⟨rfl, ⟨ws1, H1.out.mono (by omega)⟩, (Turns.of hbx hB).trans ht⟩
      | false =>
        rw [if_neg (by simp)]
        go_enter Try.func24, Try.ntmps24
        go_wp2_with fail
        refine HA.out.mono ?_
        rintro e w1 ⟨rfl, ⟨ws1, H1⟩, ht⟩
        have H1 := Lib.hid H1
        go_wp2_with fail
        go_ret2
        exact ⟨rfl, ⟨ws1, H1.out.mono (by omega)⟩, (Turns.of hbx hB).trans ht⟩
    · rw [stepD_no _ _ _ _ _ h0 h1]
      have k0 : (kd == 0) = false := by simpa using h0
      have k1 : (kd == 1) = false := by simpa using h1
      clear h h0 h1
      go_enter Try.func24, Try.ntmps24
      go_wp2_with fail
      go_ret2
      exact ⟨rfl, ⟨ws, HB.out.mono (by omega)⟩, Turns.of hbx hB⟩
/-- What the document's words must be for its calls. -/
structure DocOk (K N : Nat) (l : List DW) : Prop where
  len : l.length ≤ K
  uses : ∀ i, i < l.length → (l.getD i default).2.2 ≤ K
  least : IsLeast l N
  bound : N ≤ K + 1
  uniq : Uniq l
  pos : ∀ x ∈ l, 0 < x.2.2
theorem BookL.ok {w : World} {B p K : Nat} {ws : WS} {l : List DW} (h : BookL w B p K ws l) : DocOk K (freeW ws) l := by
  obtain ⟨h1, h2, h3, h4, h5, h6⟩ := h.docs
  exact ⟨h1, h2, h3, h6, h4, h5⟩
set_option maxRecDepth 100000 in
set_option maxHeartbeats 1000000 in
theorem rdo_L {w : World} {v : Value} {l : List DW} {K N : Nat} (h : DocAt w 0 v l) (hK : K ≤ 50000) (hl : DocOk K N l) (o : LOp) (hs : o.2.2.size ≤ 35184372088832) :
    Calls Try.prog 31 #[v, opV o] w fun e w' => ∃ v', e = .returned (.tuple #[v', .int .i64 (stepD N l o).2.1, .int .i64 (stepD N l o).2.2]) ∧ DocAt w' 0 v' (stepD N l o).1 ∧ Below w.heap.size w w' := by
  obtain ⟨kd, n, s⟩ := o
  unfold opV
  dsimp only at hs ⊢
  have hbx : Below w.heap.size w (w.alloc (.cells #[.int .i64 kd, .int .i64 n, .string s] 51)) := (Below.refl _ _).alloc (Nat.le_refl _) _
  have HD := Lib.hid (h.below hbx)
  by_cases h0 : kd = 0
  · subst h0
    have HA := Lib.hid (radd_L HD.out (Nat.zero_le _) hK hl.len hl.uses hl.least hl.bound hl.uniq hl.pos s hs)
    rw [stepD_add]
    clear h hl
    go_enter Try.func31, Try.ntmps31
    go_wp2_with fail
    refine HA.out.mono ?_
    rintro e w1 ⟨v', rfl, H1, ht⟩
    have H1 := Lib.hid H1
    go_wp2_with fail
    go_ret3
    exact ⟨_, rfl, H1.out, hbx.trans (ht.mono hbx.size)⟩
  · by_cases h1 : kd = 1
    · subst h1
      have h1 := hl.len
      have HA := Lib.hid (rdrop_any 0 v l _ HD.out (Nat.zero_le _) (by omega) (fun i hi => by have := hl.uses i hi; omega) n)
      rw [dropD_T hl.uniq hl.pos] at HA
      rw [stepD_drop]
      generalize dropT l n = r at *
      obtain ⟨l', b⟩ := r
      clear h hl
      cases b with
      | true =>
        rw [if_pos rfl]
        go_enter Try.func31, Try.ntmps31
        go_wp2_with fail
        refine HA.out.mono ?_
        rintro e w1 ⟨v', rfl, H1, ht⟩
        have H1 := Lib.hid H1
        go_wp2_with fail
        go_ret3
        exact ⟨_, rfl, H1.out, hbx.trans (ht.mono hbx.size)⟩
      | false =>
        rw [if_neg (by simp)]
        go_enter Try.func31, Try.ntmps31
        go_wp2_with fail
        refine HA.out.mono ?_
        rintro e w1 ⟨v', rfl, H1, ht⟩
        have H1 := Lib.hid H1
        go_wp2_with fail
        go_ret3
        exact ⟨_, rfl, H1.out, hbx.trans (ht.mono hbx.size)⟩
    · rw [stepD_no _ _ _ _ _ h0 h1]
      have k0 : (kd == 0) = false := by simpa using h0
      have k1 : (kd == 1) = false := by simpa using h1
      clear h h0 h1
      go_enter Try.func31, Try.ntmps31
      go_wp2_with fail
      go_ret3
      exact ⟨_, rfl, HD.out, hbx⟩
/-- A script of calls, in memory below B; no name longer than M. -/
structure ScriptAt (M : Nat) (w : World) (B : Nat) (v : Value) (os : List LOp) : Prop where
  val : ∃ a cap, v = .slice a os.length cap ∧ (0 < os.length → ∃ b off, a = some ⟨b, off, none⟩ ∧ b < B ∧ ∀ i, i < os.length → w.cell? ⟨b, off + i * 3, none⟩ = some (.int .i64 (os.getD i default).1) ∧ w.cell? ⟨b, off + i * 3 + 1, none⟩ = some (.int .i64 (os.getD i default).2.1) ∧ w.cell? ⟨b, off + i * 3 + 2, none⟩ = some (.string (os.getD i default).2.2))
  small : ∀ o ∈ os, o.2.2.size ≤ M
theorem ScriptAt.below {M : Nat} {w w' : World} {B : Nat} {v : Value} {os : List LOp} (h : ScriptAt M w B v os) (hb : Below B w w') : ScriptAt M w' B v os := by
  obtain ⟨⟨a, cap, h1, h2⟩, h3⟩ := h
  refine ⟨⟨a, cap, h1, fun h0 => ?_⟩, h3⟩
  obtain ⟨b, off, e, hlt, hc⟩ := h2 h0
  refine ⟨b, off, e, hlt, fun i hi => ?_⟩
  obtain ⟨c1, c2, c3⟩ := hc i hi
  exact ⟨(hb.cell (by exact hlt)).trans c1, (hb.cell (by exact hlt)).trans c2, (hb.cell (by exact hlt)).trans c3⟩
theorem ScriptAt.mono {M : Nat} {w : World} {B B' : Nat} {v : Value} {os : List LOp} (h : ScriptAt M w B v os) (hB : B ≤ B') : ScriptAt M w B' v os := by
  obtain ⟨⟨a, cap, h1, h2⟩, h3⟩ := h
  refine ⟨⟨a, cap, h1, fun h0 => ?_⟩, h3⟩
  obtain ⟨b, off, e, hlt, hc⟩ := h2 h0
  exact ⟨b, off, e, by omega, hc⟩
theorem DocAt.turns {w w' : World} {B B2 : Nat} {v : Value} {l : List DW} (h : DocAt w B v l) (ht : Turns B2 w w') : DocAt w' B v l := OwnS.turns h ht (by decide) (by decide)
set_option maxRecDepth 100000 in
set_option maxHeartbeats 1000000 in
theorem plays_L {w : World} {B p K : Nat} {ws : WS} {l : List DW} {lv sv : Value} {os : List LOp} (h : BookL w B p K ws l) (hd : DocAt w 0 lv l) (hs : ScriptAt 35184372088832 w B sv os) (hK : K + os.length ≤ 50000) :
    Calls Try.prog 14 #[.pointer (some ⟨p, 0, none⟩), lv, sv] w fun e w' => ∃ lv' l' ws', e = .returned (.tuple #[lv', .bool true]) ∧ BookL w' B p (K + os.length) ws' l' ∧ DocAt w' 0 lv' l' ∧ Turns B w w' := by
  obtain ⟨⟨sa, sc, rfl, hcells⟩, hsmall⟩ := hs
  obtain ⟨n, hn⟩ : ∃ n, n = os.length := ⟨_, rfl⟩
  rw [← hn] at hcells hK ⊢
  obtain ⟨va, vc, rfl⟩ := OwnS.len hd
  have HC := Lib.hid hcells
  have HSM := Lib.hid hsmall
  have HN := Lib.hid hn
  have hB := h.lt.2.2
  have HD := Lib.hid hd
  have HB := Lib.hid h
  clear hcells hsmall hn hd h
  go_enter Try.func14, Try.ntmps14
  go_wp2_with fail
  go_loopw [1, 17] (fun lv i wr => ∃ (k : Nat) (l' : List DW) (ws' : WS), k ≤ n ∧ i = .int .i64 (k : Int) ∧ Hid (BookL wr B p (K + k) ws' l') ∧ Hid (DocAt wr 0 lv l') ∧ Hid (Turns B w wr)) (fun _ i _ => n - (intOf i).toNat)
  case atStart => exact ⟨0, l, ws, Nat.zero_le _, rfl, HB, HD, Lib.hid (Turns.refl _ _)⟩
  case round =>
    obtain ⟨k, l', ws', hk, rfl, HBk, HDk, Ht⟩ := hrel
    obtain ⟨va', vc', rfl⟩ := OwnS.len HDk.out
    by_cases hlt : k < n
    · obtain ⟨b, off, rfl, hbB, hcc⟩ := HC.out (by omega)
      obtain ⟨c1, c2, c3⟩ := hcc k hlt
      have hosz := HSM.out _ (getD_mem os k (by rw [← HN.out]; exact hlt))
      obtain ⟨o, ho⟩ : ∃ o, o = os.getD k default := ⟨_, rfl⟩
      rw [← ho] at c1 c2 c3 hosz
      have c1 := (Ht.out.below.cell (by exact hbB)).trans c1
      have c2 := (Ht.out.below.cell (by exact hbB)).trans c2
      have c3 := (Ht.out.below.cell (by exact hbB)).trans c3
      have hBwr : B ≤ wr.heap.size := HBk.out.lt.2.2
      clear ho hcc
      have hbx : Below wr.heap.size wr (wr.alloc (.cells #[.int .i64 o.1, .int .i64 o.2.1, .string o.2.2] 51)) := (Below.refl _ _).alloc (Nat.le_refl _) _
      have r0 : (wr.alloc (.cells #[.int .i64 o.1, .int .i64 o.2.1, .string o.2.2] 51)).heap[wr.heap.size]? = some (.cells #[.int .i64 o.1, .int .i64 o.2.1, .string o.2.2] 51 (0, 0)) := heap_alloc_new _ _
      have HDO := Lib.hid (rdo_L (HDk.out.below hbx) (K := K + k) (N := freeW ws') (by omega) HBk.out.ok o hosz)
      have HBa := Lib.hid (HBk.out.below hbx)
      have HSG : Hid (∃ r, r = stepD (freeW ws') l' o) := Lib.hid ⟨_, rfl⟩
      go_wp2_with fail
      refine HDO.out.mono ?_
      rintro e w1 ⟨v1, rfl, HD1, hb1⟩
      have q1 : w1.heap[wr.heap.size]? = some (.cells #[.int .i64 o.1, .int .i64 o.2.1, .string o.2.2] 51 (0, 0)) := (hb1.block _ (by simp)).trans r0
      have g1 : w1.cell? ⟨wr.heap.size, 0, none⟩ = some (.int .i64 o.1) := by rw [cell_of_row _ _ 0 _ _ _ q1]; rfl
      have g2 : w1.cell? ⟨wr.heap.size, 1, none⟩ = some (.int .i64 o.2.1) := by rw [cell_of_row _ _ 1 _ _ _ q1]; rfl
      have g3 : w1.cell? ⟨wr.heap.size, 2, none⟩ = some (.string o.2.2) := by rw [cell_of_row _ _ 2 _ _ _ q1]; rfl
      have HS := Lib.hid (does_L (HBa.out.below hb1) (by omega) o (Nat.le_trans hosz (by decide)))
      have ht1 := Lib.hid ((Ht.out.trans (Turns.of hbx hBwr)).trans (Turns.of hb1 (Nat.le_trans hBwr hbx.size)))
      have HD1 := Lib.hid HD1
      generalize stepD (freeW ws') l' o = r at *
      clear q1 r0 hb1 hbx HBa HDO HBk HDk Ht c1 c2 c3
      obtain ⟨va2, vc2, rfl⟩ := OwnS.len HD1.out
      go_wp2_with fail
      refine HS.out.mono ?_
      rintro e w2 ⟨rfl, ⟨ws2, HB2⟩, ht2⟩
      have HB2 := Lib.hid HB2
      have HD2 := Lib.hid (HD1.out.turns ht2)
      have ht2 := Lib.hid (ht1.out.trans ht2)
      clear ht1 HD1 HS g1 g2 g3
      go_wp2_with fail
      refine (len_L HB2.out).mono ?_
      rintro e w3 ⟨rfl, rfl⟩
      go_wp2_with fail
      go_roundw
      case rel => exact ⟨k + 1, r.1, ws2, by omega, by go_num, HB2, HD2, ht2⟩
      case measure => simp [intOf]; omega
    · obtain rfl : k = n := by omega
      go_wp2_with fail
      go_ret2
      exact ⟨_, l', ws', rfl, HBk.out, HDk.out, Ht.out⟩
end Go.Proofs.Ytoflicfghonhcaa
