/- WALKS OF LAYER 14 (spans): own and ints of the law's file; Levels of no spans. -/
import Derived.Test.YtahdlbckcddeeaaSpansB
namespace Go.Proofs.Ytahdlbckcddeeaa
open Go.RowKit
set_option linter.unusedVariables false
set_option maxRecDepth 100000 in
theorem levels_nil (a : Option Addr) (cap : Nat) (w : World) : Calls Try.prog 15 #[.slice a 0 cap] w (LevelsPost (some []) w) := by
  go_enter Try.func15, Try.ntmps15
  go_wp2_with fail
  go_loopw [4, 5, 10] (fun u v i wr => u = .slice none 0 0 ∧ v = .slice none 0 0 ∧ i = .int .i64 0 ∧ w = wr) (fun _ _ i _ => 0)
  case atStart => exact ⟨rfl, rfl, rfl, rfl⟩
  case round =>
    obtain ⟨rfl, rfl, rfl, rfl⟩ := hrel
    go_wp2_with fail
    go_ret2
    exact ⟨_, rfl, OwnS.nil _ _ _ _, Below.refl _ _⟩
def OwnPost (s : List (Int × Int)) (w : World) (e : Ending) (w' : World) : Prop := ∃ v, e = .returned v ∧ OwnS w' w.heap.size 43 2 v s.length (spnCells s) ∧ Below w.heap.size w w'
set_option maxRecDepth 100000 in
set_option maxHeartbeats 1000000 in
theorem own_some (b off len cap : Nat) (s : List (Int × Int)) (hl : len = s.length) (h0 : 0 < len) (hlen : len ≤ 1048576) (w : World) (hi : SpansAt w b off s) :
    Calls Try.prog 12 #[.slice (some ⟨b, off, none⟩) len cap] w (OwnPost s w) := by
  have hbl : b < w.heap.size := block_lt_of_cell (hi 0 (by omega)).1
  have HI := Lib.hid hi
  have HL := Lib.hid hl
  clear hi hl
  obtain ⟨k0, hk1, hk2, hk3, hk4⟩ := info_parts infoSpn
  go_enter Try.func12, Try.ntmps12
  go_wp2_with fail
  go_loopw [3, 8] (fun v i wr => ∃ (k : Nat), k ≤ len ∧ i = .int .i64 k ∧ OwnS wr w.heap.size 43 2 v k (spnCells (s.take k)) ∧ Below w.heap.size w wr) (fun _ i _ => len - (intOf i).toNat)
  case atStart => exact ⟨0, by omega, rfl, OwnS.nil _ _ _ _, Below.refl _ _⟩
  case round =>
    obtain ⟨k, hk, rfl, hov, hb⟩ := hrel
    by_cases hlt : k < len
    · obtain ⟨x, hx⟩ : ∃ x, x = s.getD k default := ⟨_, rfl⟩
      have hc := (HI.out.below hb) k (by rw [← HL.out]; exact hlt)
      rw [← hx] at hc
      obtain ⟨c1, c2⟩ := hc
      have HX := Lib.hid hx
      clear hx
      have hblr : b < wr.heap.size := Nat.lt_of_lt_of_le hbl hb.size
      go_wp2_with (at_builtin; refine wpList_append_ownS _ rfl _ _ 26 rfl w.heap.size 43 k0 (.agg #[.int .i64 0, .int .i64 0]) 2 16 Try.underlying26 hk1 hk2 hk3 hk4 rfl (by decide) _ _ _ rfl ((hov.alloc _).alloc _) ⟨wr.heap.size + 1, 0, none⟩ 1 1 [.int .i64 x.1, .int .i64 x.2] rfl rfl ?c1 ?c2 ?c3 ?c4 ?c5 ?_)
      case c1 => intro jj u h; have := spn_new (wr.alloc (Obj.cells #[Value.int IntKind.i64 x.1, Value.int IntKind.i64 x.2] 42)) (.int .i64 x.1) (.int .i64 x.2) 43 jj u h; rw [show (wr.alloc (Obj.cells #[Value.int IntKind.i64 x.1, Value.int IntKind.i64 x.2] 42)).heap.size = wr.heap.size + 1 by simp] at this; exact this
      case c2 => intro u hu; simp at hu; rcases hu with rfl | rfl <;> rfl
      case c3 => unfold maxLen; omega
      case c4 => omega
      case c5 => have := hb.size; simp; omega
      intro v2 wb hown2 hgrow2
      have hbb : Below w.heap.size w wb := below_grown ((hb.alloc hb.size _).alloc (by have := hb.size; simp; omega) _) ((hov.alloc _).alloc _) hgrow2 (by have := hb.size; simp; omega) (Nat.le_refl _)
      clear hgrow2 hov
      go_wp2_with fail
      go_roundw
      case rel =>
        refine ⟨k + 1, by omega, by go_num, ?_, hbb⟩
        have e : s.take (k + 1) = s.take k ++ [x] := by
          rw [HX.out, List.take_add_one, List.getD_eq_getElem?_getD]
          have : k < s.length := by rw [← HL.out]; exact hlt
          simp [List.getElem?_eq_getElem this]
        rw [e, spnCells_append]
        exact hown2
      case measure => simp [intOf]; omega
    · obtain rfl : k = len := by omega
      go_wp2_with fail
      go_ret
      refine ⟨_, rfl, ?_, hb⟩
      have e : s.take k = s := by rw [HL.out, List.take_length]
      rw [e] at hov
      rw [← HL.out]
      exact hov
set_option maxRecDepth 100000 in
theorem own_nil (a : Option Addr) (cap : Nat) (w : World) : Calls Try.prog 12 #[.slice a 0 cap] w (OwnPost [] w) := by
  go_enter Try.func12, Try.ntmps12
  go_wp2_with fail
  go_loopw [3, 8] (fun v i wr => v = .slice none 0 0 ∧ i = .int .i64 0 ∧ w = wr) (fun _ i _ => 0)
  case atStart => exact ⟨rfl, rfl, rfl⟩
  case round =>
    obtain ⟨rfl, rfl, rfl⟩ := hrel
    go_wp2_with fail
    go_ret
    exact ⟨_, rfl, OwnS.nil _ _ _ _, Below.refl _ _⟩
theorem int_at (x : List Int) (k : Nat) (h : k < x.length) : (x.map (Value.int .i64))[k]? = some (.int .i64 (x.getD k 0)) := by
  simp [List.getElem?_map, List.getElem?_eq_getElem h]
theorem eq_upto (x y : List Int) (h : x.length = y.length) (k : Nat) (hk : k < x.length) (hn : ¬ x.getD k 0 = y.getD k 0) : (x == y) = false := by
  rw [beq_eq_false_iff_ne]
  rintro rfl
  exact hn rfl
theorem eq_all (x y : List Int) (h : x.length = y.length) (ha : ∀ k, k < x.length → x.getD k 0 = y.getD k 0) : (x == y) = true := by
  rw [beq_iff_eq]
  refine List.ext_getElem h fun k h1 h2 => ?_
  have := ha k h1
  simpa [List.getD_eq_getElem?_getD, h1, h2] using this
set_option maxRecDepth 100000 in
set_option maxHeartbeats 1000000 in
theorem ints_any (b1 b2 : Nat) (v1 v2 : Value) (x y : List Int) (hxm : x.length ≤ 1048576) (w : World) (h1 : OwnS w b1 3 1 v1 x.length (x.map (Value.int .i64))) (h2 : OwnS w b2 3 1 v2 y.length (y.map (Value.int .i64))) :
    Calls Try.prog 19 #[v1, v2] w fun e w' => e = .returned (.bool (x == y)) ∧ Below w.heap.size w w' := by
  obtain ⟨a1, c1, rfl⟩ := h1.len
  obtain ⟨a2, c2, rfl⟩ := h2.len
  obtain ⟨m, hm⟩ : ∃ m, m = x.length := ⟨_, rfl⟩
  obtain ⟨n, hn⟩ : ∃ n, n = y.length := ⟨_, rfl⟩
  obtain ⟨q, hq⟩ : ∃ q, q = (x == y) := ⟨_, rfl⟩
  rw [← hq]
  rw [← hm] at h1 hxm ⊢
  rw [← hn] at h2 ⊢
  by_cases hmn : m = n
  · subst hmn
    have HQ := Lib.hid hq
    have HM := Lib.hid hm
    have HN := Lib.hid hn
    clear hq hm hn
    go_enter Try.func19, Try.ntmps19
    go_wp2_with fail
    go_loopw [13] (fun i wr => ∃ (k : Nat), k ≤ m ∧ i = .int .i64 k ∧ (∀ j, j < k → x.getD j 0 = y.getD j 0) ∧ Below w.heap.size w wr) (fun i _ => m - (intOf i).toNat)
    case atStart => exact ⟨0, by omega, rfl, by omega, Below.refl _ _⟩
    case round =>
      obtain ⟨k, hk, rfl, ha, hb⟩ := hrel
      have HA := Lib.hid ha
      clear ha
      by_cases hlt : k < m
      · obtain ⟨g1, d1, hv1, _, hg1, _, _⟩ := h1.shape (by omega)
        cases hv1
        obtain ⟨g2, d2, hv2, _, hg2, _, _⟩ := h2.shape (by omega)
        cases hv2
        have r1 : wr.cell? ⟨g1, k, none⟩ = some (.int .i64 (x.getD k 0)) := by
          rw [hb.cell (by exact hg1), h1.cellAt k (by omega)]; exact int_at x k (by rw [← HM.out]; exact hlt)
        have r2 : wr.cell? ⟨g2, k, none⟩ = some (.int .i64 (y.getD k 0)) := by
          rw [hb.cell (by exact hg2), h2.cellAt k (by omega)]; exact int_at y k (by rw [← HN.out]; exact hlt)
        generalize hp : x.getD k 0 = p at r1
        generalize hq : y.getD k 0 = q' at r2
        have HP := Lib.hid hp
        have HQ' := Lib.hid hq
        clear hp hq
        go_wp2_with fail
        by_cases hpq : p = q'
        · go_quiet (fail)
          go_wp2_with fail
          go_roundw
          case rel =>
            refine ⟨k + 1, by omega, by go_num, fun j hj => ?_, below_drewN hb _⟩
            by_cases hjk : j < k
            · exact HA.out j hjk
            · obtain rfl : j = k := by omega
              rw [HP.out, HQ'.out, hpq]
          case measure => simp [intOf]; omega
        · go_quiet (fail)
          go_wp2_with fail
          go_ret
          exact ⟨ret_bool (by rw [HQ.out]; exact (eq_upto x y (by rw [← HM.out, ← HN.out]) k (by rw [← HM.out]; exact hlt) (by rw [HP.out, HQ'.out]; exact hpq)).symm), below_drewN hb _⟩
      · obtain rfl : k = m := by omega
        go_wp2_with fail
        go_ret
        exact ⟨ret_bool (by rw [HQ.out]; exact (eq_all x y (by rw [← HM.out, ← HN.out]) (by rw [← HM.out]; exact HA.out)).symm), hb⟩
  · have hq' : q = false := by rw [hq, beq_eq_false_iff_ne]; rintro rfl; exact hmn (hm.trans hn.symm)
    clear hq hm hn
    go_enter Try.func19, Try.ntmps19
    go_wp2_with fail
    go_ret
    exact ⟨ret_bool hq'.symm, Below.refl _ _⟩
end Go.Proofs.Ytahdlbckcddeeaa
