/- WALKS OF LAYER 14 (spans): Levels, the program's. -/
import Derived.Test.YtahdlbckcddeeaaSpansA
import Derived.Deep.RegionHeld3
namespace Go.Proofs.Ytahdlbckcddeeaa
open Go.RowKit
set_option linter.unusedVariables false
theorem infoInt : (Try.prog.info? 3).map (fun i => (i.zero, i.size, i.bytes)) = some (some (.int .i64 0), 1, 8) := by kernel_rfl
theorem infoSpn : (Try.prog.info? 43).map (fun i => (i.zero, i.size, i.bytes)) = some (some (.agg #[.int .i64 0, .int .i64 0]), 2, 16) := by kernel_rfl
theorem spn_new (w : World) (x y : Value) (e : TypeId) (j : Nat) (u : Value) (h : [x, y][j]? = some u) : (w.alloc (.cells #[x, y] e (0, 0))).cell? ((⟨w.heap.size, 0, none⟩ : Addr).add j) = some u := by
  match j, h with
  | 0, h => simpa [go_sem] using h
  | 1, h => simpa [go_sem] using h
/-- A slice's length, as a measure. -/
def lenOf : Value → Nat | .slice _ n _ => n | _ => 0
/-- Spans that lie in memory. -/
def SpansAt (w : World) (b off : Nat) (s : List (Int × Int)) : Prop := ∀ k, k < s.length → w.cell? ⟨b, off + k * 2, none⟩ = some (.int .i64 (s.getD k default).1) ∧ w.cell? ⟨b, off + k * 2 + 1, none⟩ = some (.int .i64 (s.getD k default).2)
theorem SpansAt.below {w w' : World} {b off : Nat} {s : List (Int × Int)} (h : SpansAt w b off s) (hb : Below w.heap.size w w') : SpansAt w' b off s := fun k hk => by
  have h1 := h k hk
  have hlt : b < w.heap.size := block_lt_of_cell h1.1
  exact ⟨(hb.cell (by exact hlt)).trans h1.1, (hb.cell (by exact hlt)).trans h1.2⟩
def LevelsPost (o : Option (List Int)) (w : World) (e : Ending) (w' : World) : Prop := match o with
  | none => e = .returned (.tuple #[.slice none 0 0, .bool false]) ∧ Below w.heap.size w w'
  | some out => ∃ v, e = .returned (.tuple #[v, .bool true]) ∧ OwnS w' w.heap.size 3 1 v out.length (out.map (Value.int .i64)) ∧ Below w.heap.size w w'
set_option maxRecDepth 100000 in
set_option maxHeartbeats 4000000 in
theorem levels_some (b off len cap : Nat) (s : List (Int × Int)) (hl : len = s.length) (h0 : 0 < len) (hlen : len ≤ 1048576) (w : World) (hi : SpansAt w b off s) :
    Calls Try.prog 15 #[.slice (some ⟨b, off, none⟩) len cap] w (LevelsPost (levelsP s) w) := by
  have hbl : b < w.heap.size := block_lt_of_cell (hi 0 (by omega)).1
  have HI := Lib.hid hi
  have HL := Lib.hid hl
  clear hi hl
  obtain ⟨j0, hj, hj0, hj1, hj2⟩ := info_parts infoInt
  obtain ⟨k0, hk1, hk2, hk3, hk4⟩ := info_parts infoSpn
  go_enter Try.func15, Try.ntmps15
  go_wp2_with fail
  go_loopw [4, 5, 10] (fun u v i wr => ∃ (k : Nat) (out : List Int) (o : List (Int × Int)), k ≤ len ∧ i = .int .i64 k ∧ out.length = k ∧ o.length ≤ k ∧ OwnS wr w.heap.size 3 1 u out.length (out.map (Value.int .i64)) ∧ OwnS wr w.heap.size 43 2 v o.length (spnCells o) ∧ levelsGo s (len - k) k o out = levelsP s ∧ Below w.heap.size w wr) (fun _ _ i _ => len - (intOf i).toNat)
  case atStart => exact ⟨0, [], [], by omega, rfl, rfl, by simp, OwnS.nil _ _ _ _, OwnS.nil _ _ _ _, by rw [levelsP, ← HL.out]; rfl, Below.refl _ _⟩
  case round =>
    obtain ⟨k, out, o, hk, rfl, hol, hoo, hou, hov, hgo, hb⟩ := hrel
    have HGO := Lib.hid hgo
    have HOL := Lib.hid hol
    clear hgo hol
    by_cases hlt : k < len
    · obtain ⟨x, hx⟩ : ∃ x, x = s.getD k default := ⟨_, rfl⟩
      have hc := (HI.out.below hb) k (by rw [← HL.out]; exact hlt)
      rw [← hx] at hc
      obtain ⟨c1, c2⟩ := hc
      obtain ⟨au, cu, rfl⟩ := hou.len
      have HX := Lib.hid hx
      clear hx
      have hblr : b < wr.heap.size := Nat.lt_of_lt_of_le hbl hb.size
      obtain ⟨wo, rfl⟩ : ∃ wo : World, wo = wr := ⟨_, rfl⟩
      go_wp2_with fail
      go_loopw [5] (fun v wx => ∃ o2 : List (Int × Int), o2.length ≤ o.length ∧ OwnS wx w.heap.size 43 2 v o2.length (spnCells o2) ∧ popL x o2 = popL x o ∧ OwnS wx w.heap.size 3 1 (.slice au out.length cu) out.length (out.map (Value.int .i64)) ∧ wx.cell? ⟨wo.heap.size, 0, none⟩ = some (.int .i64 x.1) ∧ wx.cell? ⟨wo.heap.size, 1, none⟩ = some (.int .i64 x.2) ∧ wo.heap.size < wx.heap.size ∧ Below wo.heap.size wo wx) (fun v _ => lenOf v)
      case atStart => exact ⟨o, Nat.le_refl _, hov.alloc _, rfl, hou.alloc _, by simp, by simp, by simp, (Below.refl _ _).alloc (Nat.le_refl _) _⟩
      case round =>
        obtain ⟨o2, ho2, hov2, hpop, hou2, d1, d2, hszx, hbx⟩ := hrel
        have HPOP := Lib.hid hpop
        clear hpop
        rcases List.eq_nil_or_concat o2 with rfl | ⟨p, t, rfl⟩
        · obtain ⟨m, hm⟩ : ∃ m, m = ([] : List (Int × Int)).length := ⟨_, rfl⟩
          rw [← hm] at hov2
          obtain ⟨ag, cp, rfl⟩ := hov2.len
          have z0 : ¬ 0 < m := by rw [hm]; simp
          have HM := Lib.hid hm
          have HMK : Hid (m ≤ k) := by rw [HM.out]; exact Nat.zero_le _
          have HOP : Hid (popL x o = []) := HPOP.out.symm
          clear hm
          go_wp2_with fail
          go_quiet (fail)
          generalize hz : World.drewN _ _ = w'
          have f5 : Below wr.heap.size wr w' := hz ▸ below_drewN (Below.refl _ _) _
          clear hz
          have f3 := (f5.cell (block_lt_of_cell d1)).trans d1
          have f4 := (f5.cell (block_lt_of_cell d2)).trans d2
          have hsz2 : wo.heap.size < w'.heap.size := Nat.lt_of_lt_of_le hszx f5.size
          have hbl2 : b < w'.heap.size := Nat.lt_trans hblr hsz2
          obtain ⟨q, hq⟩ : ∃ q, q = (insideB x.1 && insideB x.2) := ⟨_, rfl⟩
          have HQ := Lib.hid hq
          clear hq
          go_wp2_with fail
          refine (inside_two _ x.1 x.2 _ ?_ ?_).mono ?_
          · simp [go_sem]
          · simp [go_sem]
          rw [← HQ.out]
          rintro e w2 ⟨rfl, rfl⟩
          cases q
          case false =>
            go_wp2_with fail
            go_ret2
            have e := levelsGo_no s k o out (by rw [← HL.out]; exact hlt) (by rw [← HX.out]; exact ok_in s k _ (by rw [← HX.out]; exact HQ.out))
            rw [HL.out, e] at HGO
            rw [← HGO.out]
            exact ⟨rfl, hb.trans ((hbx.trans ((f5.alloc f5.size _).mono hbx.size)).mono hb.size)⟩

          case true =>
            by_cases hxx : x.2 ≤ x.1
            · skip
              go_wp2_with fail
              go_ret2
              have e := levelsGo_no s k o out (by rw [← HL.out]; exact hlt) (by rw [← HX.out]; exact ok_lt s k _ (by rw [← HX.out]; exact hxx))
              rw [HL.out, e] at HGO
              rw [← HGO.out]
              exact ⟨rfl, hb.trans ((hbx.trans ((f5.alloc f5.size _).mono hbx.size)).mono hb.size)⟩

            · go_wp2_with fail
              rcases Nat.eq_zero_or_pos k with hk0 | hk0
              · have nk : ¬ 0 < k := by omega
                have HK0 := Lib.hid hk0
                clear hk0
                go_quiet (fail)
                go_wp2_with fail
                generalize hz : World.drewN _ _ = wz
                have bz : Below wr.heap.size wr wz := hz ▸ below_drewN (f5.alloc f5.size _) _
                have hszz : wo.heap.size < wz.heap.size := Nat.lt_of_lt_of_le hszx bz.size
                clear hz f3 f4
                go_quiet (fail)
                generalize hz : World.drewN _ _ = wv
                have h5 : Below wr.heap.size wr wv := hz ▸ below_drewN bz _
                clear hz
                have h3 := (h5.cell (block_lt_of_cell d1)).trans d1
                have h4 := (h5.cell (block_lt_of_cell d2)).trans d2
                have HOK : Hid (okSpan s k (popL (s.getD k default) o) = true) := by
                  rw [← HX.out, HOP.out]
                  exact ok_yes s k _ (by rw [← HX.out]; exact HQ.out) (by rw [← HX.out]; omega) (.inl HK0.out) (fun t' p' h => by simp at h)
                have hvou := hou2.below h5
                have hvov := hov2.below h5
                have hbv : Below w.heap.size w wv := hb.trans ((hbx.trans (h5.mono hbx.size)).mono hb.size)
                have hszv : wo.heap.size < wv.heap.size := Nat.lt_of_lt_of_le hszx h5.size
                have HML := Lib.hid HM.out

                go_wp2_with (at_builtin; refine wpList_append_ownS _ rfl _ _ 32 rfl w.heap.size 3 j0 (.int .i64 0) 1 8 Try.underlying32 hj hj0 hj1 hj2 rfl (by decide) _ _ _ rfl (hvou.alloc _) ⟨wv.heap.size, 0, none⟩ 1 1 [.int .i64 m] rfl rfl ?c1 ?c2 ?c3 ?c4 ?c5 ?_)
                case c1 => exact cell_one_new _ _ _
                case c2 => intro u hu; simp at hu; subst hu; rfl
                case c3 => have := HOL.out; unfold maxLen; omega
                case c4 => have := HOL.out; omega
                case c5 => have := hbv.size; simp; omega
                intro v1 wa hown1 hgrow1
                have hba : Below w.heap.size w wa := below_grown (hbv.alloc hbv.size _) (hvou.alloc _) hgrow1 (by have := hbv.size; simp; omega) (Nat.le_refl _)
                have hova : OwnS wa w.heap.size 43 2 (.slice ag m cp) m (spnCells []) := (hvov.alloc _).kept hgrow1 (hvov.apart hvou (by decide))
                have hne : some wo.heap.size ≠ (Value.slice au out.length cu).ownBlock := fun h => by have := (hou.block _ h.symm).2.1; omega
                have hwa : wa.heap[wo.heap.size]? = wv.heap[wo.heap.size]? := (hgrow1.block _ (by simp; omega) hne).trans (Below.heap_alloc _ _ _ hszv)
                have i3 : wa.cell? ⟨wo.heap.size, 0, none⟩ = some (.int .i64 x.1) := (World.cell?_of_block (w := wv) (w' := wa) (a := ⟨wo.heap.size, 0, none⟩) hwa).trans h3
                have i4 : wa.cell? ⟨wo.heap.size, 1, none⟩ = some (.int .i64 x.2) := (World.cell?_of_block (w := wv) (w' := wa) (a := ⟨wo.heap.size, 1, none⟩) hwa).trans h4
                have hsza : wo.heap.size < wa.heap.size := by have := hgrow1.size; simp at this; omega
                clear h3 h4 hgrow1 hwa hvov hvou
                go_wp2_with (at_builtin; refine wpList_append_ownS _ rfl _ _ 26 rfl w.heap.size 43 k0 (.agg #[.int .i64 0, .int .i64 0]) 2 16 Try.underlying26 hk1 hk2 hk3 hk4 rfl (by decide) _ _ _ rfl (hova.alloc _) ⟨wa.heap.size, 0, none⟩ 1 1 [.int .i64 x.1, .int .i64 x.2] rfl rfl ?c1 ?c2 ?c3 ?c4 ?c5 ?_)
                case c1 => exact spn_new _ _ _ _
                case c2 => intro u hu; simp at hu; rcases hu with rfl | rfl <;> rfl
                case c3 => have := HMK.out; unfold maxLen; omega
                case c4 => have := HMK.out; omega
                case c5 => have := hba.size; simp; omega
                intro v2 wb hown2 hgrow2
                have hbb : Below w.heap.size w wb := below_grown (hba.alloc hba.size _) (hova.alloc _) hgrow2 (by have := hba.size; simp; omega) (Nat.le_refl _)
                have hou3 : OwnS wb w.heap.size 3 1 v1 (out.length + 1) (out.map (Value.int .i64) ++ [.int .i64 m]) := (hown1.alloc _).kept hgrow2 (hown1.apart hova (by decide))
                clear hgrow2 hown1 hova
                go_wp2_with fail
                go_roundw
                case rel =>
                  have e := levelsGo_yes s k o out (by rw [← HL.out]; exact hlt) HOK.out
                  rw [← HX.out, HOP.out, ← HML.out] at e
                  refine ⟨k + 1, out ++ [(m : Int)], [] ++ [x], by omega, by go_num, by simp [HOL.out], ?_, ?_, ?_, ?_, hbb⟩
                  · have := HMK.out; rw [List.length_append, ← HML.out, List.length_singleton]; omega
                  · simpa using hou3
                  · rw [spnCells_append]
                    have : ([] ++ [x]).length = m + 1 := by rw [List.length_append, ← HML.out, List.length_singleton]
                    rw [this]
                    exact hown2
                  · rw [← HGO.out, HL.out, e]
                case measure => simp [intOf]; omega

              · obtain ⟨i, hi⟩ : ∃ i, k = i + 1 := ⟨k - 1, by omega⟩
                have hci := (HI.out.below hb) i (by rw [← HL.out]; omega)
                obtain ⟨y, hy⟩ : ∃ y, y = s.getD i default := ⟨_, rfl⟩
                rw [← hy] at hci
                have y1 : (w'.alloc (Obj.cells #[Value.int IntKind.i64 x.1, Value.int IntKind.i64 x.2] 3)).cell? ⟨b, off + i * 2, none⟩ = some (.int .i64 y.1) := by
                  rw [((Below.refl w'.heap.size w').alloc (Nat.le_refl _) _).cell (by exact hbl2), f5.cell (by exact Nat.lt_of_lt_of_le hblr hbx.size), hbx.cell (by exact hblr)]
                  exact hci.1
                have y2 : IntKind.i64.wrap ((k : Int) - 1) = (i : Int) := by rw [IntWalk.i64_in] <;> omega
                have y3 : (0 : Int) ≤ (i : Int) := by omega
                have y4 : (i : Int) < (len : Int) := by omega
                have HII := Lib.hid hi
                have HY := Lib.hid hy
                clear hi hy hci
                go_quiet (fail)
                by_cases hyx : x.1 ≤ y.1
                · skip
                  go_wp2_with fail
                  go_ret2
                  have e := levelsGo_no s k o out (by rw [← HL.out]; exact hlt) (by rw [HII.out] at HX ⊢; rw [← HX.out]; exact ok_prev s i _ (by rw [← HX.out, ← HY.out]; exact hyx))
                  rw [HL.out, e] at HGO
                  rw [← HGO.out]
                  exact ⟨rfl, hb.trans ((hbx.trans ((below_drewN (f5.alloc f5.size _) _).mono hbx.size)).mono hb.size)⟩

                · go_wp2_with fail
                  have HPV : Hid (k = 0 ∨ (s.getD (k - 1) default).1 < (s.getD k default).1) := .inr (by rw [← HX.out, HII.out, Nat.add_sub_cancel, ← HY.out]; omega)
                  generalize hz : World.drewN _ _ = wz
                  have bz : Below wr.heap.size wr wz := hz ▸ below_drewN (f5.alloc f5.size _) _
                  have hszz : wo.heap.size < wz.heap.size := Nat.lt_of_lt_of_le hszx bz.size
                  clear hz f3 f4
                  go_quiet (fail)
                  generalize hz : World.drewN _ _ = wv
                  have h5 : Below wr.heap.size wr wv := hz ▸ below_drewN bz _
                  clear hz
                  have h3 := (h5.cell (block_lt_of_cell d1)).trans d1
                  have h4 := (h5.cell (block_lt_of_cell d2)).trans d2
                  have HOK : Hid (okSpan s k (popL (s.getD k default) o) = true) := by
                    rw [← HX.out, HOP.out]
                    exact ok_yes s k _ (by rw [← HX.out]; exact HQ.out) (by rw [← HX.out]; omega) (HPV.out) (fun t' p' h => by simp at h)
                  have hvou := hou2.below h5
                  have hvov := hov2.below h5
                  have hbv : Below w.heap.size w wv := hb.trans ((hbx.trans (h5.mono hbx.size)).mono hb.size)
                  have hszv : wo.heap.size < wv.heap.size := Nat.lt_of_lt_of_le hszx h5.size
                  have HML := Lib.hid HM.out

                  go_wp2_with (at_builtin; refine wpList_append_ownS _ rfl _ _ 32 rfl w.heap.size 3 j0 (.int .i64 0) 1 8 Try.underlying32 hj hj0 hj1 hj2 rfl (by decide) _ _ _ rfl (hvou.alloc _) ⟨wv.heap.size, 0, none⟩ 1 1 [.int .i64 m] rfl rfl ?c1 ?c2 ?c3 ?c4 ?c5 ?_)
                  case c1 => exact cell_one_new _ _ _
                  case c2 => intro u hu; simp at hu; subst hu; rfl
                  case c3 => have := HOL.out; unfold maxLen; omega
                  case c4 => have := HOL.out; omega
                  case c5 => have := hbv.size; simp; omega
                  intro v1 wa hown1 hgrow1
                  have hba : Below w.heap.size w wa := below_grown (hbv.alloc hbv.size _) (hvou.alloc _) hgrow1 (by have := hbv.size; simp; omega) (Nat.le_refl _)
                  have hova : OwnS wa w.heap.size 43 2 (.slice ag m cp) m (spnCells []) := (hvov.alloc _).kept hgrow1 (hvov.apart hvou (by decide))
                  have hne : some wo.heap.size ≠ (Value.slice au out.length cu).ownBlock := fun h => by have := (hou.block _ h.symm).2.1; omega
                  have hwa : wa.heap[wo.heap.size]? = wv.heap[wo.heap.size]? := (hgrow1.block _ (by simp; omega) hne).trans (Below.heap_alloc _ _ _ hszv)
                  have i3 : wa.cell? ⟨wo.heap.size, 0, none⟩ = some (.int .i64 x.1) := (World.cell?_of_block (w := wv) (w' := wa) (a := ⟨wo.heap.size, 0, none⟩) hwa).trans h3
                  have i4 : wa.cell? ⟨wo.heap.size, 1, none⟩ = some (.int .i64 x.2) := (World.cell?_of_block (w := wv) (w' := wa) (a := ⟨wo.heap.size, 1, none⟩) hwa).trans h4
                  have hsza : wo.heap.size < wa.heap.size := by have := hgrow1.size; simp at this; omega
                  clear h3 h4 hgrow1 hwa hvov hvou
                  go_wp2_with (at_builtin; refine wpList_append_ownS _ rfl _ _ 26 rfl w.heap.size 43 k0 (.agg #[.int .i64 0, .int .i64 0]) 2 16 Try.underlying26 hk1 hk2 hk3 hk4 rfl (by decide) _ _ _ rfl (hova.alloc _) ⟨wa.heap.size, 0, none⟩ 1 1 [.int .i64 x.1, .int .i64 x.2] rfl rfl ?c1 ?c2 ?c3 ?c4 ?c5 ?_)
                  case c1 => exact spn_new _ _ _ _
                  case c2 => intro u hu; simp at hu; rcases hu with rfl | rfl <;> rfl
                  case c3 => have := HMK.out; unfold maxLen; omega
                  case c4 => have := HMK.out; omega
                  case c5 => have := hba.size; simp; omega
                  intro v2 wb hown2 hgrow2
                  have hbb : Below w.heap.size w wb := below_grown (hba.alloc hba.size _) (hova.alloc _) hgrow2 (by have := hba.size; simp; omega) (Nat.le_refl _)
                  have hou3 : OwnS wb w.heap.size 3 1 v1 (out.length + 1) (out.map (Value.int .i64) ++ [.int .i64 m]) := (hown1.alloc _).kept hgrow2 (hown1.apart hova (by decide))
                  clear hgrow2 hown1 hova
                  go_wp2_with fail
                  go_roundw
                  case rel =>
                    have e := levelsGo_yes s k o out (by rw [← HL.out]; exact hlt) HOK.out
                    rw [← HX.out, HOP.out, ← HML.out] at e
                    refine ⟨k + 1, out ++ [(m : Int)], [] ++ [x], by omega, by go_num, by simp [HOL.out], ?_, ?_, ?_, ?_, hbb⟩
                    · have := HMK.out; rw [List.length_append, ← HML.out, List.length_singleton]; omega
                    · simpa using hou3
                    · rw [spnCells_append]
                      have : ([] ++ [x]).length = m + 1 := by rw [List.length_append, ← HML.out, List.length_singleton]
                      rw [this]
                      exact hown2
                    · rw [← HGO.out, HL.out, e]
                  case measure => simp [intOf]; omega
        · obtain ⟨m, hm⟩ : ∃ m, m = (p.concat t).length := ⟨_, rfl⟩
          obtain ⟨j, hj⟩ : ∃ j, j = p.length := ⟨_, rfl⟩
          have hmj : m = j + 1 := by rw [hm, List.length_concat, hj]
          rw [← hm] at hov2 ho2
          obtain ⟨g, cp, hv, hg, hgl, hcp, hcm⟩ := hov2.shape (by omega)
          subst hv
          have q := spnCells_at (p ++ [t]) p.length (by simp)
          rw [show (p ++ [t]).getD p.length default = t by simp, ← hj] at q
          have e1 : wr.cell? ⟨g, j * 2, none⟩ = some (.int .i64 t.1) := by rw [hov2.cellAt (j * 2) (by omega), List.concat_eq_append]; exact q.1
          have e2 : wr.cell? ⟨g, j * 2 + 1, none⟩ = some (.int .i64 t.2) := by rw [hov2.cellAt (j * 2 + 1) (by omega), List.concat_eq_append]; exact q.2
          have z0 : 0 < m := by omega
          have z1 : IntKind.i64.wrap ((m : Int) - 1) = (j : Int) := by rw [IntWalk.i64_in] <;> omega
          have z2 : (0 : Int) ≤ (j : Int) := by omega
          have z3 : (j : Int) < (m : Int) := by omega
          have HM := Lib.hid hm
          have HJ := Lib.hid hj
          have HMJ := Lib.hid hmj
          have HMK : Hid (m ≤ k) := Nat.le_trans ho2 hoo
          clear hm hj hmj q
          go_wp2_with fail
          have hgr : g < wr.heap.size := hgl
          have KS : ∀ wa wb : World, Below wa.heap.size wa wb → (wa.cell? ⟨g, j * 2, none⟩ = some (.int .i64 t.1) ∧ wa.cell? ⟨g, j * 2 + 1, none⟩ = some (.int .i64 t.2) ∧ wa.cell? ⟨wo.heap.size, 0, none⟩ = some (.int .i64 x.1) ∧ wa.cell? ⟨wo.heap.size, 1, none⟩ = some (.int .i64 x.2) ∧ Below wr.heap.size wr wa) →
              (wb.cell? ⟨g, j * 2, none⟩ = some (.int .i64 t.1) ∧ wb.cell? ⟨g, j * 2 + 1, none⟩ = some (.int .i64 t.2) ∧ wb.cell? ⟨wo.heap.size, 0, none⟩ = some (.int .i64 x.1) ∧ wb.cell? ⟨wo.heap.size, 1, none⟩ = some (.int .i64 x.2) ∧ Below wr.heap.size wr wb) := fun wa wb h hs => by
            obtain ⟨s1, s2, s3, s4, s5⟩ := hs
            exact ⟨(h.cell (block_lt_of_cell s1)).trans s1, (h.cell (block_lt_of_cell s2)).trans s2, (h.cell (block_lt_of_cell s3)).trans s3, (h.cell (block_lt_of_cell s4)).trans s4, s5.trans (h.mono s5.size)⟩
          have HKS := Lib.hid KS
          clear KS
          go_region_held3 (fun w' => w'.cell? ⟨g, j * 2, none⟩ = some (.int .i64 t.1) ∧ w'.cell? ⟨g, j * 2 + 1, none⟩ = some (.int .i64 t.2) ∧ w'.cell? ⟨wo.heap.size, 0, none⟩ = some (.int .i64 x.1) ∧ w'.cell? ⟨wo.heap.size, 1, none⟩ = some (.int .i64 x.2) ∧ Below wr.heap.size wr w')
            (first | exact HKS.out _ _ (by assumption) (by assumption) | exact ⟨e1, e2, d1, d2, (Below.refl _ _).drew⟩ | go_keep)
            (first | (go_at_call 21; refine (spn_ahead t x _).mono ?_; rintro e w' ⟨rfl, hba⟩))
          obtain ⟨f1, f2, f3, f4, f5⟩ := ‹_ ∧ _ ∧ _ ∧ _ ∧ Below wr.heap.size wr w'›
          clear hba
          have hsz2 : wo.heap.size < w'.heap.size := Nat.lt_of_lt_of_le hszx f5.size
          have hbl2 : b < w'.heap.size := Nat.lt_trans hblr hsz2
          have hgl2 : g < w'.heap.size := Nat.lt_of_lt_of_le hgl f5.size
          generalize hah : aheadB t x = qa
          have HAH := Lib.hid hah
          clear hah
          cases qa
          case true =>
            have z4 : j ≤ cp := by have := HMJ.out; omega
            have z5 : (j : Int) ≤ (cp : Int) := by omega
            go_wp2_with fail
            go_round
            case rel =>
              refine ⟨p, by rw [← HJ.out]; omega, ?_, by rw [← HPOP.out, List.concat_eq_append, popL_yes x t p HAH.out], hou2.below f5, f3, f4, hsz2, hbx.trans (f5.mono hbx.size)⟩
              have hc := (hov2.below f5).cut j j (by omega) (Nat.le_refl _) (by omega)
              rw [List.concat_eq_append, spnCells_take] at hc
              have e : (p ++ [t]).take j = p := by rw [HJ.out, List.take_left]
              rw [e, HJ.out] at hc
              rw [HJ.out]
              exact hc
            case measure => simp only [lenOf]; have := HMJ.out; omega
          case false =>
            have HOP : Hid (popL x o = p ++ [t]) := HPOP.out.symm.trans (by rw [List.concat_eq_append, popL_no x t p HAH.out])
            obtain ⟨q, hq⟩ : ∃ q, q = (insideB x.1 && insideB x.2) := ⟨_, rfl⟩
            have HQ := Lib.hid hq
            clear hq
            go_wp2_with fail
            refine (inside_two _ x.1 x.2 _ ?_ ?_).mono ?_
            · simp [go_sem]
            · simp [go_sem]
            rw [← HQ.out]
            rintro e w2 ⟨rfl, rfl⟩
            cases q
            case false =>
              go_wp2_with fail
              go_ret2
              have e := levelsGo_no s k o out (by rw [← HL.out]; exact hlt) (by rw [← HX.out]; exact ok_in s k _ (by rw [← HX.out]; exact HQ.out))
              rw [HL.out, e] at HGO
              rw [← HGO.out]
              exact ⟨rfl, hb.trans ((hbx.trans ((f5.alloc f5.size _).mono hbx.size)).mono hb.size)⟩

            case true =>
              by_cases hxx : x.2 ≤ x.1
              · skip
                go_wp2_with fail
                go_ret2
                have e := levelsGo_no s k o out (by rw [← HL.out]; exact hlt) (by rw [← HX.out]; exact ok_lt s k _ (by rw [← HX.out]; exact hxx))
                rw [HL.out, e] at HGO
                rw [← HGO.out]
                exact ⟨rfl, hb.trans ((hbx.trans ((f5.alloc f5.size _).mono hbx.size)).mono hb.size)⟩

              · go_wp2_with fail
                rcases Nat.eq_zero_or_pos k with hk0 | hk0
                · have := HMK.out; omega
                · obtain ⟨i, hi⟩ : ∃ i, k = i + 1 := ⟨k - 1, by omega⟩
                  have hci := (HI.out.below hb) i (by rw [← HL.out]; omega)
                  obtain ⟨y, hy⟩ : ∃ y, y = s.getD i default := ⟨_, rfl⟩
                  rw [← hy] at hci
                  have y1 : (w'.alloc (Obj.cells #[Value.int IntKind.i64 x.1, Value.int IntKind.i64 x.2] 3)).cell? ⟨b, off + i * 2, none⟩ = some (.int .i64 y.1) := by
                    rw [((Below.refl w'.heap.size w').alloc (Nat.le_refl _) _).cell (by exact hbl2), f5.cell (by exact Nat.lt_of_lt_of_le hblr hbx.size), hbx.cell (by exact hblr)]
                    exact hci.1
                  have y2 : IntKind.i64.wrap ((k : Int) - 1) = (i : Int) := by rw [IntWalk.i64_in] <;> omega
                  have y3 : (0 : Int) ≤ (i : Int) := by omega
                  have y4 : (i : Int) < (len : Int) := by omega
                  have HII := Lib.hid hi
                  have HY := Lib.hid hy
                  clear hi hy hci
                  go_quiet (fail)
                  by_cases hyx : x.1 ≤ y.1
                  · skip
                    go_wp2_with fail
                    go_ret2
                    have e := levelsGo_no s k o out (by rw [← HL.out]; exact hlt) (by rw [HII.out] at HX ⊢; rw [← HX.out]; exact ok_prev s i _ (by rw [← HX.out, ← HY.out]; exact hyx))
                    rw [HL.out, e] at HGO
                    rw [← HGO.out]
                    exact ⟨rfl, hb.trans ((hbx.trans ((below_drewN (f5.alloc f5.size _) _).mono hbx.size)).mono hb.size)⟩

                  · go_wp2_with fail
                    have HPV : Hid (k = 0 ∨ (s.getD (k - 1) default).1 < (s.getD k default).1) := .inr (by rw [← HX.out, HII.out, Nat.add_sub_cancel, ← HY.out]; omega)
                    generalize hz : World.drewN _ _ = wz
                    have bz : Below wr.heap.size wr wz := hz ▸ below_drewN (f5.alloc f5.size _) _
                    clear hz f1 f2 f3 f4
                    have g1 := (bz.cell (block_lt_of_cell e1)).trans e1
                    have g2 := (bz.cell (block_lt_of_cell e2)).trans e2
                    have g3 := (bz.cell (block_lt_of_cell d1)).trans d1
                    have g4 := (bz.cell (block_lt_of_cell d2)).trans d2
                    go_region_held3 (fun w' => w'.cell? ⟨g, j * 2, none⟩ = some (.int .i64 t.1) ∧ w'.cell? ⟨g, j * 2 + 1, none⟩ = some (.int .i64 t.2) ∧ w'.cell? ⟨wo.heap.size, 0, none⟩ = some (.int .i64 x.1) ∧ w'.cell? ⟨wo.heap.size, 1, none⟩ = some (.int .i64 x.2) ∧ Below wr.heap.size wr w')
                      (first | exact HKS.out _ _ (by assumption) (by assumption) | exact ⟨g1, g2, g3, g4, bz.drew⟩ | go_keep)
                      (first | (go_at_call 20; refine (spn_in x t _).mono ?_; rintro e wv ⟨rfl, hba⟩))
                    obtain ⟨h1, h2, h3, h4, h5⟩ := ‹_ ∧ _ ∧ _ ∧ _ ∧ Below wr.heap.size wr wv›
                    clear hba h1 h2 g1 g2 g3 g4
                    generalize hin : inB x t = qb
                    have HIN := Lib.hid hin
                    clear hin
                    cases qb
                    case false =>
                      go_wp2_with fail
                      go_ret2
                      have e := levelsGo_no s k o out (by rw [← HL.out]; exact hlt) (by rw [← HX.out, HOP.out]; exact ok_last s k p t (by rw [← HX.out]; exact HIN.out))
                      rw [HL.out, e] at HGO
                      rw [← HGO.out]
                      exact ⟨rfl, hb.trans ((hbx.trans ((h5).mono hbx.size)).mono hb.size)⟩

                    case true =>
                      have HOK : Hid (okSpan s k (popL (s.getD k default) o) = true) := by
                        rw [← HX.out, HOP.out]
                        refine ok_yes s k _ (by rw [← HX.out]; exact HQ.out) (by rw [← HX.out]; omega) (HPV.out) (fun t' p' h => ?_)
                        obtain ⟨rfl, h'⟩ := List.append_inj' h rfl
                        cases h'
                        rw [← HX.out]; exact HIN.out
                      have hvou := hou2.below h5
                      have hvov := hov2.below h5
                      have hbv : Below w.heap.size w wv := hb.trans ((hbx.trans (h5.mono hbx.size)).mono hb.size)
                      have hszv : wo.heap.size < wv.heap.size := Nat.lt_of_lt_of_le hszx h5.size
                      have HML := Lib.hid HM.out
                      rw [List.concat_eq_append] at HML hvov
                      go_wp2_with (at_builtin; refine wpList_append_ownS _ rfl _ _ 32 rfl w.heap.size 3 j0 (.int .i64 0) 1 8 Try.underlying32 hj hj0 hj1 hj2 rfl (by decide) _ _ _ rfl (hvou.alloc _) ⟨wv.heap.size, 0, none⟩ 1 1 [.int .i64 m] rfl rfl ?c1 ?c2 ?c3 ?c4 ?c5 ?_)
                      case c1 => exact cell_one_new _ _ _
                      case c2 => intro u hu; simp at hu; subst hu; rfl
                      case c3 => have := HOL.out; unfold maxLen; omega
                      case c4 => have := HOL.out; omega
                      case c5 => have := hbv.size; simp; omega
                      intro v1 wa hown1 hgrow1
                      have hba : Below w.heap.size w wa := below_grown (hbv.alloc hbv.size _) (hvou.alloc _) hgrow1 (by have := hbv.size; simp; omega) (Nat.le_refl _)
                      have hova : OwnS wa w.heap.size 43 2 (.slice (some ⟨g, 0, none⟩) m cp) m (spnCells (p ++ [t])) := (hvov.alloc _).kept hgrow1 (hvov.apart hvou (by decide))
                      have hne : some wo.heap.size ≠ (Value.slice au out.length cu).ownBlock := fun h => by have := (hou.block _ h.symm).2.1; omega
                      have hwa : wa.heap[wo.heap.size]? = wv.heap[wo.heap.size]? := (hgrow1.block _ (by simp; omega) hne).trans (Below.heap_alloc _ _ _ hszv)
                      have i3 : wa.cell? ⟨wo.heap.size, 0, none⟩ = some (.int .i64 x.1) := (World.cell?_of_block (w := wv) (w' := wa) (a := ⟨wo.heap.size, 0, none⟩) hwa).trans h3
                      have i4 : wa.cell? ⟨wo.heap.size, 1, none⟩ = some (.int .i64 x.2) := (World.cell?_of_block (w := wv) (w' := wa) (a := ⟨wo.heap.size, 1, none⟩) hwa).trans h4
                      have hsza : wo.heap.size < wa.heap.size := by have := hgrow1.size; simp at this; omega
                      clear h3 h4 hgrow1 hwa hvov hvou
                      go_wp2_with (at_builtin; refine wpList_append_ownS _ rfl _ _ 26 rfl w.heap.size 43 k0 (.agg #[.int .i64 0, .int .i64 0]) 2 16 Try.underlying26 hk1 hk2 hk3 hk4 rfl (by decide) _ _ _ rfl (hova.alloc _) ⟨wa.heap.size, 0, none⟩ 1 1 [.int .i64 x.1, .int .i64 x.2] rfl rfl ?c1 ?c2 ?c3 ?c4 ?c5 ?_)
                      case c1 => exact spn_new _ _ _ _
                      case c2 => intro u hu; simp at hu; rcases hu with rfl | rfl <;> rfl
                      case c3 => have := HMK.out; unfold maxLen; omega
                      case c4 => have := HMK.out; omega
                      case c5 => have := hba.size; simp; omega
                      intro v2 wb hown2 hgrow2
                      have hbb : Below w.heap.size w wb := below_grown (hba.alloc hba.size _) (hova.alloc _) hgrow2 (by have := hba.size; simp; omega) (Nat.le_refl _)
                      have hou3 : OwnS wb w.heap.size 3 1 v1 (out.length + 1) (out.map (Value.int .i64) ++ [.int .i64 m]) := (hown1.alloc _).kept hgrow2 (hown1.apart hova (by decide))
                      clear hgrow2 hown1 hova
                      go_wp2_with fail
                      go_roundw
                      case rel =>
                        have e := levelsGo_yes s k o out (by rw [← HL.out]; exact hlt) HOK.out
                        rw [← HX.out, HOP.out, ← HML.out] at e
                        refine ⟨k + 1, out ++ [(m : Int)], (p ++ [t]) ++ [x], by omega, by go_num, by simp [HOL.out], ?_, ?_, ?_, ?_, hbb⟩
                        · have := HMK.out; rw [List.length_append, ← HML.out, List.length_singleton]; omega
                        · simpa using hou3
                        · rw [spnCells_append]
                          have : ((p ++ [t]) ++ [x]).length = m + 1 := by rw [List.length_append, ← HML.out, List.length_singleton]
                          rw [this]
                          exact hown2
                        · rw [← HGO.out, HL.out, e]
                      case measure => simp [intOf]; omega
    · obtain rfl : k = len := by omega
      go_wp2_with fail
      go_ret2
      rw [Nat.sub_self] at HGO
      rw [← HGO.out]
      exact ⟨u4, rfl, hou, hb⟩
end Go.Proofs.Ytahdlbckcddeeaa
