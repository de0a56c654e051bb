/- WALKS OF LAYER 15 (lexicon): Add. -/
import Derived.Test.YtoflicfghonhcaaLexB
import Derived.Deep.CutRange
namespace Go.Proofs.Ytoflicfghonhcaa
open Go.RowKit Go.WideMaps Go.Maps
set_option linter.unusedVariables false
set_option maxRecDepth 100000 in
theorem add_bad (B p : Nat) (vw : Value) (mb m : Nat) (ws : List (ByteArray × Nat)) (f : ByteArray → Option Nat) (cnt : Nat) (w : World) (h : BookAt w B p vw mb m ws f cnt) (s : ByteArray) (hs : s.size ≤ maxLen) (hn : nameP s.data.toList = false) :
    Calls Try.prog 12 #[.pointer (some ⟨p, 0, none⟩), .string s] w fun e w' => e = .returned (.tuple #[.int .i64 0, .int .i64 63]) ∧ Below w.heap.size w w' := by
  obtain ⟨c0, c1⟩ := h.cell0
  have hl := h.nums.look s hs
  have HN := Lib.hid hn
  generalize f s = r at hl
  clear h hn
  go_enter Try.func12, Try.ntmps12
  go_wp2_with fail
  refine (name_any s hs _).mono ?_
  rw [HN.out]
  rintro e w1 ⟨rfl, hb1⟩
  go_wp2_with fail
  go_ret2
  exact ⟨rfl, hb1⟩
set_option maxRecDepth 100000 in
set_option maxHeartbeats 1000000 in
theorem add_there (B p : Nat) (vw : Value) (mb m : Nat) (ws : List (ByteArray × Nat)) (f : ByteArray → Option Nat) (cnt : Nat) (w : World) (h : BookAt w B p vw mb m ws f cnt) (s : ByteArray) (hs : s.size ≤ maxLen) (hn : nameP s.data.toList = true) (i u : Nat) (hf : f s = some (i + 1)) (hi : i < ws.length) (hw : ws.length ≤ 1000000) (hu : (ws.getD i default).2 = u) (hub : u ≤ 1000000) :
    Calls Try.prog 12 #[.pointer (some ⟨p, 0, none⟩), .string s] w fun e w' => e = .returned (.tuple #[.int .i64 ((i + 1 : Nat) : Int), .int .i64 0]) ∧ BookAt w' B p vw mb m (ws.set i ((ws.getD i default).1, u + 1)) f cnt ∧ Turns B w w' := by
  obtain ⟨c0, c1⟩ := h.cell0
  have hl := h.nums.look s hs
  rw [hf] at hl
  simp only [Option.getD_some, Option.isSome_some] at hl
  obtain ⟨g, cap, rfl, hBg, hg, hcap, _⟩ := h.own.shape (by omega)
  have HH := Lib.hid h
  have HN := Lib.hid hn
  have hd := h.own.cellAt (i * 2 + 1) (by omega)
  rw [(wordCells_at ws i hi).2, hu] at hd
  have hfz := h.own.frozenAt (i * 2 + 1)
  obtain ⟨k, hk⟩ : ∃ k, k = ws.length := ⟨_, rfl⟩
  rw [← hk] at c0 hi hw
  have HK := Lib.hid hk
  have HU := Lib.hid hu
  have z1 : IntKind.i64.wrap (((i + 1 : Nat) : Int) - 1) = (i : Int) := by rw [IntKind.wrap_i64]; omega
  clear h hn hk hu hf
  go_enter Try.func12, Try.ntmps12
  go_wp2_with fail
  refine (name_any s hs _).mono ?_
  rw [HN.out]
  rintro e w1 ⟨rfl, hb1⟩
  have c0' := (hb1.cell (by exact block_lt_of_cell c0)).trans c0
  have hd' := (hb1.cell (by exact hg)).trans hd
  have HH1 := Lib.hid (HH.out.below hb1)
  have hfz' := HH1.out.own.frozenAt (i * 2 + 1)
  clear c0 c1 hd hfz hl
  go_wp2_with fail
  go_ret2
  refine ⟨rfl, ?_, (Turns.of hb1 (by have := lt_of_block HH.out.row; have := HH.out.bp; omega)).setCell (by exact hBg) HH1.out.gRow.choose_spec (.inr rfl) _⟩
  have hx := HH1.out.setUses i (u + 1) (by rw [← HK.out]; exact hi)
  have e : ((u + 1 : Nat) : Int) = (u : Int) + 1 := by omega
  rw [e] at hx
  exact hx
set_option maxRecDepth 100000 in
theorem add_full (B p : Nat) (vw : Value) (mb m : Nat) (ws : List (ByteArray × Nat)) (f : ByteArray → Option Nat) (cnt : Nat) (w : World) (h : BookAt w B p vw mb m ws f cnt) (s : ByteArray) (hs : s.size ≤ maxLen) (hn : nameP s.data.toList = true) (hf : f s = none) (hc : 4000 ≤ cnt) :
    Calls Try.prog 12 #[.pointer (some ⟨p, 0, none⟩), .string s] w fun e w' => e = .returned (.tuple #[.int .i64 0, .int .i64 150]) ∧ Below w.heap.size w w' := by
  obtain ⟨c0, c1⟩ := h.cell0
  have hl := h.nums.look s hs
  rw [hf] at hl
  simp only [Option.getD_none, Option.isSome_none] at hl
  have HN := Lib.hid hn
  have HH := Lib.hid h
  clear h hn hf
  go_enter Try.func12, Try.ntmps12
  go_wp2_with fail
  refine (name_any s hs _).mono ?_
  rw [HN.out]
  rintro e w1 ⟨rfl, hb1⟩
  have c1' := (hb1.cell (by exact block_lt_of_cell c1)).trans c1
  have hlen := (HH.out.below hb1).nums.len
  clear c0 c1 hl
  go_wp2_with fail
  go_ret2
  exact ⟨rfl, hb1⟩
set_option maxRecDepth 100000 in
set_option maxHeartbeats 1000000 in
theorem add_free (B p : Nat) (vw : Value) (mb m : Nat) (ws : List (ByteArray × Nat)) (f : ByteArray → Option Nat) (cnt : Nat) (w : World) (h : BookAt w B p vw mb m ws f cnt) (s : ByteArray) (hs : s.size ≤ maxLen) (hn : nameP s.data.toList = true) (hf : f s = none) (hc : cnt < 4000) (hm : m < 1000000) (i : Nat) (hfr : freeW ws = i + 1) (hi : i < ws.length) (hw : ws.length ≤ 1000000) :
    Calls Try.prog 12 #[.pointer (some ⟨p, 0, none⟩), .string s] w fun e w' => e = .returned (.tuple #[.int .i64 ((i + 1 : Nat) : Int), .int .i64 0]) ∧ BookAt w' B p vw mb (m + 1) (ws.set i (s, 1)) (updN f s (some (i + 1))) (cnt + 1) ∧ Turns B w w' := by
  obtain ⟨c0, c1⟩ := h.cell0
  have hl := h.nums.look s hs
  rw [hf] at hl
  simp only [Option.getD_none, Option.isSome_none] at hl
  obtain ⟨g, cap, rfl, hBg, hg, hcap, _⟩ := h.own.shape (by omega)
  have HH := Lib.hid h
  have HN := Lib.hid hn
  have HF := Lib.hid hf
  obtain ⟨k, hk⟩ : ∃ k, k = ws.length := ⟨_, rfl⟩
  rw [← hk] at c0 hi hw
  have HK := Lib.hid hk
  have z1 : IntKind.i64.wrap (((i + 1 : Nat) : Int) - 1) = (i : Int) := by rw [IntKind.wrap_i64]; omega
  have z2 : (i : Int) < (k : Int) := by omega
  have z3 : ((i + 1 : Nat) : Int) ≤ (k : Int) := by omega
  clear h hn hk hf
  go_enter Try.func12, Try.ntmps12
  go_wp2_with fail
  refine (name_any s hs _).mono ?_
  rw [HN.out]
  rintro e w1 ⟨rfl, hb1⟩
  have c0' := (hb1.cell (by exact block_lt_of_cell c0)).trans c0
  have c1' := (hb1.cell (by exact block_lt_of_cell c1)).trans c1
  have HH1 := Lib.hid (HH.out.below hb1)
  have hlen := HH1.out.nums.len
  clear c0 c1 hl
  go_wp2_with fail
  refine (free_any B p _ mb m ws f cnt w1 HH1.out (by rw [← HK.out]; exact hw)).mono ?_
  rw [hfr]
  rintro e w2 ⟨rfl, rfl⟩
  have d1 : w2.cell? ⟨g, i * 2, none⟩ = some (.string (ws.getD i default).1) := by rw [HH1.out.own.cellAt (i * 2) (by rw [← HK.out]; omega)]; exact (wordCells_at ws i (by rw [← HK.out]; exact hi)).1
  have d2 : w2.cell? ⟨g, i * 2 + 1, none⟩ = some (.int .i64 ((ws.getD i default).2 : Nat)) := by rw [HH1.out.own.cellAt (i * 2 + 1) (by rw [← HK.out]; omega)]; exact (wordCells_at ws i (by rw [← HK.out]; exact hi)).2
  have e1 := HH1.out.own.frozenAt (i * 2)
  have e2 := HH1.out.own.frozenAt (i * 2 + 1)
  generalize (ws.getD i default).1 = o1 at d1
  generalize (ws.getD i default).2 = o2 at d2
  go_upto_region 13 with fail
  have HB3 := Lib.hid (HH1.out.setWord i s 1 (by rw [← HK.out]; exact hi))
  have hb3 : Turns B w2 ((w2.setCell ⟨g, i * 2, none⟩ (.string s)).setCell ⟨g, i * 2 + 1, none⟩ (.int .i64 1)) := (Turns.refl B w2).setCell2 hBg HH1.out.gRow.choose_spec (.inr rfl) _ _ _ _
  have hB : B ≤ w.heap.size := by have := lt_of_block HH.out.row; have := HH.out.bp; omega
  change Hid (BookAt ((w2.setCell ⟨g, i * 2, none⟩ (.string s)).setCell ⟨g, i * 2 + 1, none⟩ (.int .i64 1)) B p _ mb m _ f cnt) at HB3
  generalize World.setCell (World.setCell w2 _ _) _ _ = w3 at *
  clear d1 d2 e1 e2 c0' c1' hlen
  obtain ⟨_, c1⟩ := HB3.out.cell0
  obtain ⟨w4, hrun, hnums, ht⟩ := HB3.out.nums.put (by unfold maxLen; omega) s hs (i + 1) (by omega)
  rw [HF.out] at hnums
  have HT := Lib.hid (HB3.out.turned ht hnums)
  clear hnums ht
  rw [show ((i + 1 : Nat) : Int) = (i : Int) + 1 by omega] at hrun
  go_wp2_with fail
  go_ret2
  refine ⟨rfl, ?_, (Turns.of hb1 hB).trans (hb3.trans HT.out.2)⟩
  exact HT.out.1
set_option maxRecDepth 100000 in
set_option maxHeartbeats 1000000 in
theorem add_grow (B p : Nat) (vw : Value) (mb m : Nat) (ws : List (ByteArray × Nat)) (f : ByteArray → Option Nat) (cnt : Nat) (w : World) (h : BookAt w B p vw mb m ws f cnt) (s : ByteArray) (hs : s.size ≤ maxLen) (hn : nameP s.data.toList = true) (hf : f s = none) (hc : cnt < 4000) (hm : m < 1000000) (i : Nat) (hfr : freeW ws = i + 1) (hi : i = ws.length) (hw : ws.length ≤ 100000) :
    Calls Try.prog 12 #[.pointer (some ⟨p, 0, none⟩), .string s] w fun e w' => e = .returned (.tuple #[.int .i64 ((i + 1 : Nat) : Int), .int .i64 0]) ∧ (∃ v', BookAt w' B p v' mb (m + 1) (ws ++ [(s, 1)]) (updN f s (some (i + 1))) (cnt + 1)) ∧ Turns B w w' := by
  obtain ⟨k0, hk1, hk2, hk3, hk4⟩ := info_parts infoWord
  obtain ⟨c0, c1⟩ := h.cell0
  have hl := h.nums.look s hs
  rw [hf] at hl
  simp only [Option.getD_none, Option.isSome_none] at hl
  obtain ⟨va, vc, rfl⟩ := h.own.len
  have HH := Lib.hid h
  have HN := Lib.hid hn
  have HF := Lib.hid hf
  have HI := Lib.hid hi
  rw [← hi] at c0 hw
  have z1 : IntKind.i64.wrap (((i + 1 : Nat) : Int) - 1) = (i : Int) := by rw [IntKind.wrap_i64]; omega
  clear h hn hf hi
  go_enter Try.func12, Try.ntmps12
  go_wp2_with fail
  refine (name_any s hs _).mono ?_
  rw [HN.out]
  rintro e w1 ⟨rfl, hb1⟩
  have c0' := (hb1.cell (by exact block_lt_of_cell c0)).trans c0
  have c1' := (hb1.cell (by exact block_lt_of_cell c1)).trans c1
  have HH1 := Lib.hid (HH.out.below hb1)
  have hlen := HH1.out.nums.len
  clear c0 c1 hl
  go_wp2_with fail
  refine (free_any B p _ mb m ws f cnt w1 HH1.out (by rw [← HI.out]; omega)).mono ?_
  rw [hfr]
  rintro e w2 ⟨rfl, rfl⟩
  have ho2 := HH1.out.own
  rw [← HI.out] at ho2
  have hB : B ≤ w.heap.size := by have := lt_of_block HH.out.row; have := HH.out.bp; omega
  have hB2 : B ≤ w2.heap.size := Nat.le_trans hB hb1.size
  go_wp2_with (at_builtin; refine wpList_append_ownS _ rfl _ _ 60 rfl B 65 k0 (.agg #[.string ByteArray.empty, .int .i64 0]) 2 24 Try.underlying60 hk1 hk2 hk3 hk4 rfl (by decide) _ _ _ rfl (ho2.alloc _) ⟨w2.heap.size, 0, none⟩ 1 1 [.string ByteArray.empty, .int .i64 0] rfl rfl ?c1 ?c2 ?c3 ?c4 ?c5 ?_)
  case c1 => intro jj u hu; exact two_new _ _ _ _ jj u hu
  case c2 => intro u hu; simp at hu; rcases hu with rfl | rfl <;> rfl
  case c3 => unfold maxLen; omega
  case c4 => omega
  case c5 => first | omega | (simp; omega)
  intro v1 wa hown1 hgrow1
  obtain ⟨g, cap, rfl, hBg, hg, hcap, _⟩ := hown1.shape (by omega)
  have hown2 : OwnS wa B 65 2 (.slice (some ⟨g, 0, none⟩) (i + 1) cap) (ws ++ [(ByteArray.empty, 0)]).length (wordCells (ws ++ [(ByteArray.empty, 0)])) := by
    rw [wordCells_append, List.length_append, ← HI.out]
    exact hown1
  have HA2 := HH1.out.below ((Below.refl _ _).alloc (Nat.le_refl _) (.cells #[.string ByteArray.empty, .int .i64 0] 65))
  have hgr := HA2.grown (by rw [← HI.out]; exact hgrow1)
  have HP := Lib.hid (HA2.pushW (by rw [← HI.out]; exact hgrow1) hown2)
  have hba : Turns B w2 (wa.setCell ⟨p, 0, none⟩ (.slice (some ⟨g, 0, none⟩) (i + 1) cap)) := (Turns.grownBy (Turns.of ((Below.refl _ _).alloc (Nat.le_refl _) _) hB2) HA2 (by rw [← HI.out]; exact hgrow1)).setCell (by exact HA2.bp) hgr.1 (.inl rfl) _
  have p0 : wa.cell? ⟨p, 0, none⟩ = some (.slice va i vc) := by rw [cell_of_row wa p 0 _ _ _ hgr.1, HI.out]; rfl
  have p1 := free_row hgr.1 0
  clear hown1 hown2 HA2 hgr hgrow1 ho2 hlen c0' c1'
  go_upto_region 12 with fail
  generalize World.setCell wa _ _ = w3 at *
  clear p0 p1
  obtain ⟨c0, c1⟩ := HP.out.cell0
  have hlen2 : (ws ++ [(ByteArray.empty, 0)]).length = i + 1 := by rw [List.length_append, ← HI.out]; rfl
  have HO := HP.out.own
  rw [hlen2] at HO
  have eat := wordCells_at (ws ++ [(ByteArray.empty, 0)]) i (by rw [hlen2]; omega)
  have d1 := HO.cellAt (i * 2) (by omega)
  have d2 := HO.cellAt (i * 2 + 1) (by omega)
  rw [eat.1] at d1
  rw [eat.2] at d2
  have e1 := HO.frozenAt (i * 2)
  have e2 := HO.frozenAt (i * 2 + 1)
  generalize ((ws ++ [(ByteArray.empty, 0)]).getD i default).1 = o1 at d1
  generalize ((ws ++ [(ByteArray.empty, 0)]).getD i default).2 = o2 at d2
  clear eat HO
  have z2 : (0 : Int) ≤ (i : Int) := by omega
  have z3 : (i : Int) < ((i + 1 : Nat) : Int) := by omega
  go_upto_region 13 with fail
  rw [← hlen2] at HP
  have HB3 := Lib.hid (HP.out.setWord i s 1 (by rw [hlen2]; omega))
  have hset : (ws ++ [(ByteArray.empty, 0)]).set i (s, 1) = ws ++ [(s, 1)] := by rw [HI.out]; simp
  rw [hset, hlen2] at HB3
  have hb3 : Turns B w3 ((w3.setCell ⟨g, i * 2, none⟩ (.string s)).setCell ⟨g, i * 2 + 1, none⟩ (.int .i64 1)) := (Turns.refl B w3).setCell2 hBg HP.out.gRow.choose_spec (.inr rfl) _ _ _ _
  change Hid (BookAt ((w3.setCell ⟨g, i * 2, none⟩ (.string s)).setCell ⟨g, i * 2 + 1, none⟩ (.int .i64 1)) B p _ mb m _ f cnt) at HB3
  generalize World.setCell (World.setCell w3 _ _) _ _ = w5 at *
  clear d1 d2 e1 e2 c0 c1 HP
  obtain ⟨_, c1⟩ := HB3.out.cell0
  obtain ⟨w4, hrun, hnums, ht⟩ := HB3.out.nums.put (by unfold maxLen; omega) s hs (i + 1) (by omega)
  rw [HF.out] at hnums
  have HT := Lib.hid (HB3.out.turned ht hnums)
  clear hnums ht
  rw [show ((i + 1 : Nat) : Int) = (i : Int) + 1 by omega] at hrun
  go_wp2_with fail
  go_ret2
  refine ⟨rfl, ⟨_, HT.out.1⟩, (Turns.of hb1 hB).trans (hba.trans (hb3.trans HT.out.2))⟩
end Go.Proofs.Ytoflicfghonhcaa
