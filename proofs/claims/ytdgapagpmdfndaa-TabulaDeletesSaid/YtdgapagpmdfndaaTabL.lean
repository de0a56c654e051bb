/- LAYER 13 (tabula): All: the iterator's contract. -/
import Derived.RangeFuncNested
import Derived.RangeFuncBound
import Derived.RangeFuncCalls
import Derived.RangeFuncLeaves
import Derived.Shelf.Abstract
import Derived.Shelf.RegionOpen
import Derived.OwnWalkIn
import Derived.TacticsInMore
import Derived.LoopNIn
import Derived.LoopIn
import Derived.Test.YtdgapagpmdfndaaTabI
namespace Go.Proofs.Ytdgapagpmdfndaa
open Go.RowKit Go.Shelf
set_option linter.unusedVariables false
attribute [local go_sem] Oper.semAt_some
theorem wide_room (k : Nat) : Fence.wide.room k := fun d h => by cases h
theorem RoundIn.wideN {m m' : Nat} {l : Nat} {f : FuncId} {tmps : Array Value} {assign body : Code} {w : World} {R : Ending → World → Prop}
    (h : RoundIn Fence.wide m Try.prog l f tmps assign body w R) : RoundIn Fence.wide m' Try.prog l f tmps assign body w R := ⟨h.1, fun c cs _ => h.2 c cs (wide_room _)⟩
theorem YieldAt.wideN {m : Nat} (m' : Nat) {l : Nat} {args : Array Value} {W : World} {R : Ending → World → Prop} (h : YieldAt Fence.wide m Try.prog l args W R) : YieldAt Fence.wide m' Try.prog l args W R := by
  obtain ⟨fn, tmps, assign, body, hy, hR⟩ := h
  exact ⟨fn, tmps, assign, body, hy, RoundIn.wideN hR⟩
/-- What a row is handed on as. -/
def rowArgs (x : Row) : Array Value := #[.int .i64 x.1, .int .i64 x.2]
def EachOk (n₀ : Nat) (J Jx : List Row → World → Prop) (pre L : List Row) (W : World) : Ending → World → Prop := fun e W' =>
  (e = .returned (.bool true) ∧ J (pre ++ L) W' ∧ Below n₀ W W') ∨ (e = .returned (.bool false) ∧ ∃ q, q <+: L ∧ Jx (pre ++ q) W')
set_option maxRecDepth 100000 in
set_option maxHeartbeats 2000000 in
theorem each_leaf (l n₀ : Nat) (N : List Row) (J Jx : List Row → World → Prop) (hJ : ∀ pre W o, J pre W → J pre (W.alloc o))
    (hY : ∀ m pre x W, J pre W → pre ++ [x] <+: N → n₀ ≤ W.heap.size → YieldAt Fence.wide m Try.prog l (rowArgs x) W fun e W' =>
      (e = .returned (.bool true) ∧ J (pre ++ [x]) W' ∧ Below n₀ W W') ∨ (e = .returned (.bool false) ∧ Jx (pre ++ [x]) W'))
    (n B p : Nat) (rv sv : Value) (L : List Row) (m : Int) (pre : List Row) (W : World) (hn : NodeAt W B p rv sv L [] m) (hlt : ∀ x, nodeF p rv sv x → x < n₀) (hnW : n₀ ≤ W.heap.size) (h0 : J pre W) (hN : pre ++ L <+: N) (h8 : L.length ≤ 1000) :
    CallsIn Fence.wide n Try.prog 39 #[.pointer (some ⟨p, 0, none⟩), .func (.yield l) #[] #[]] W (EachOk n₀ J Jx pre L W) := by
  obtain ⟨a0, a1, a2⟩ := hn.cells
  obtain ⟨sa, sc, rfl⟩ := hn.ss.len
  obtain ⟨ra, rc, rfl⟩ := hn.rs.len
  have a1 : W.cell? ⟨p, 1, none⟩ = some (.slice sa 0 sc) := a1
  have hp : p < n₀ := hlt p (.inl rfl)
  have HNO := Lib.hid hn
  have HLT := Lib.hid hlt
  have HY := Lib.hid hY
  have HJ := Lib.hid hJ
  obtain ⟨len, hlen⟩ : ∃ len, len = L.length := ⟨_, rfl⟩
  have HLE := Lib.hid hlen
  rw [← hlen] at a0 h8
  have HN := Lib.hid hN
  clear hn hlt hY hJ hlen hN
  refine callsIn_of_wp Try.func39 rfl trivial ?_ rfl
  simp only [Try.ntmps39, List.size_toArray, List.length_cons, List.length_nil, Nat.reduceAdd, Nat.reduceSub, Array.replicate_succ, Array.replicate_zero, List.push_toArray, List.append_toArray, List.nil_append, List.cons_append]
  gi_wp2
  gi_loopw [14] (fun i wr => i = .int .i64 0 ∧ W = wr) (fun _ _ => 0)
  case atStart => exact ⟨rfl, rfl⟩
  case round =>
    obtain ⟨rfl, rfl⟩ := hrel
    gi_wp2
    gi_loopw [28] (fun i wr => ∃ j : Nat, j ≤ len ∧ i = .int .i64 (j : Int) ∧ Hid (J (pre ++ L.take j) wr ∧ Below n₀ W wr)) (fun i _ => len - (intOf i).toNat)
    case atStart => exact ⟨0, Nat.zero_le _, rfl, Lib.hid ⟨by simpa using h0, Below.refl _ _⟩⟩
    case round =>
      obtain ⟨j, hj, rfl, HJJ⟩ := hrel
      by_cases hjl : j < len
      · obtain ⟨g, cap, hv, _, hg, _⟩ := HNO.out.rs.shape (by rw [← HLE.out]; omega)
        cases hv
        have hgn : g < n₀ := HLT.out g (.inr (.inl rfl))
        obtain ⟨hJ1, hB1⟩ := HJJ.out
        have d0 := (hB1.cell (p := ⟨g, j * 2, none⟩) (by exact hgn)).trans (HNO.out.rs.cellAt (j * 2) (by rw [← HLE.out]; omega))
        have d1 := (hB1.cell (p := ⟨g, j * 2 + 1, none⟩) (by exact hgn)).trans (HNO.out.rs.cellAt (j * 2 + 1) (by rw [← HLE.out]; omega))
        have hat := rowCells_at L j (by rw [← HLE.out]; exact hjl)
        rw [hat.1] at d0
        rw [hat.2] at d1
        obtain ⟨x, hx⟩ : ∃ x, x = L.getD j default := ⟨_, rfl⟩
        rw [← hx] at d0 d1
        have hst := take_snoc L j (by rw [← HLE.out]; exact hjl)
        rw [← hx] at hst
        have HST := Lib.hid hst
        have hnr : n₀ ≤ wr.heap.size := Nat.le_trans hnW hB1.size
        have hB2 : Below n₀ W (wr.alloc (.cells #[.int .i64 x.1, .int .i64 x.2] 68)) := hB1.alloc hnr _
        obtain ⟨fn, tmps, assign, body, hy, hR⟩ := HY.out (n - 1) (pre ++ L.take j) x (wr.alloc (.cells #[.int .i64 x.1, .int .i64 x.2] 68)) (HJ.out _ _ _ hJ1) (by rw [List.append_assoc, ← hst]; exact ((List.prefix_append_right_inj pre).2 (List.take_prefix _ _)).trans HN.out) (by simp; omega)
        dsimp only [rowArgs] at hy
        have HB2 := Lib.hid hB2
        clear hat hx hst hJ1 hB1 HJJ hB2
        gi_wp2
        refine ⟨fun h => (by cases h), ?_⟩
        refine hR.mono ?_
        clear hR
        rintro e W3 (⟨rfl, hJ3, hk3⟩ | ⟨rfl, hJx3⟩)
        · gi_wp2
          go_roundw
          case rel => exact ⟨j + 1, by omega, by go_num, Lib.hid ⟨by rw [HST.out, ← List.append_assoc]; exact hJ3, HB2.out.trans hk3⟩⟩
          case measure => simp [intOf]; omega
        · gi_wp2
          go_ret
          exact .inr ⟨rfl, L.take j ++ [x], by rw [← HST.out]; exact List.take_prefix _ _, by rw [← List.append_assoc]; exact hJx3⟩
      · obtain rfl : j = len := by omega
        gi_wp2
        go_ret
        refine .inl ⟨rfl, ?_, HJJ.out.2⟩
        have := HJJ.out.1
        rw [List.take_of_length_le (by rw [HLE.out]; exact Nat.le_refl _)] at this
        exact this
set_option maxRecDepth 100000 in
set_option maxHeartbeats 2000000 in
theorem each_node (l n₀ : Nat) (N : List Row) (J Jx : List Row → World → Prop)
    (n B lo h p : Nat) (rv sv : Value) (ks : List Kid) (m : Int) (pre : List Row) (W : World)
    (ih : ∀ (k : Kid) (pre : List Row) (W : World), TreeAt W B lo h k → k.e ≤ 8 → (∀ x, k.F x → x < n₀) → n₀ ≤ W.heap.size → J pre W → pre ++ k.L <+: N →
      CallsIn Fence.wide (n - 1) Try.prog 39 #[.pointer (some ⟨k.p, 0, none⟩), .func (.yield l) #[] #[]] W (EachOk n₀ J Jx pre k.L W))
    (hn : NodeAt W B p rv sv [] (kidsP ks) m) (hc : ∀ c ∈ ks, TreeAt W B lo h c ∧ lo ≤ c.e ∧ c.e ≤ 8) (hlt : ∀ x, nodeF p rv sv x → x < n₀) (hltk : ∀ x, kidsF ks x → x < n₀) (hnW : n₀ ≤ W.heap.size) (h0 : J pre W) (hN : pre ++ kidsL ks <+: N) (h8 : ks.length ≤ 1000) :
    CallsIn Fence.wide n Try.prog 39 #[.pointer (some ⟨p, 0, none⟩), .func (.yield l) #[] #[]] W (EachOk n₀ J Jx pre (kidsL ks) W) := by
  obtain ⟨a0, a1, a2⟩ := hn.cells
  obtain ⟨sa, sc, rfl⟩ := hn.ss.len
  obtain ⟨ra, rc, rfl⟩ := hn.rs.len
  have a0 : W.cell? ⟨p, 0, none⟩ = some (.slice ra 0 rc) := a0
  have hp : p < n₀ := hlt p (.inl rfl)
  have HNO := Lib.hid hn
  have HLT := Lib.hid hlt
  have HKL := Lib.hid hltk
  have HC := Lib.hid hc
  have HIH := Lib.hid ih
  have HN := Lib.hid hN
  obtain ⟨len, hlen⟩ : ∃ len, len = ks.length := ⟨_, rfl⟩
  have HLE := Lib.hid hlen
  rw [kidsP_len, ← hlen] at a1
  rw [← hlen] at h8
  clear hn hlt hltk hc ih hlen hN
  refine callsIn_of_wp Try.func39 rfl trivial ?_ rfl
  simp only [Try.ntmps39, List.size_toArray, List.length_cons, List.length_nil, Nat.reduceAdd, Nat.reduceSub, Array.replicate_succ, Array.replicate_zero, List.push_toArray, List.append_toArray, List.nil_append, List.cons_append]
  gi_wp2
  gi_loopw [14] (fun i wr => ∃ j : Nat, j ≤ len ∧ i = .int .i64 (j : Int) ∧ Hid (J (pre ++ kidsL (ks.take j)) wr ∧ Below n₀ W wr)) (fun i _ => len - (intOf i).toNat)
  case atStart => exact ⟨0, Nat.zero_le _, rfl, Lib.hid ⟨by simpa [kidsL] using h0, Below.refl _ _⟩⟩
  case round =>
    obtain ⟨j, hj, rfl, HJJ⟩ := hrel
    by_cases hjl : j < len
    · have hss := HNO.out.ss
      rw [kidsP_len, ← HLE.out] at hss
      obtain ⟨g, cap, hv, _, hg, _⟩ := hss.shape (by omega)
      cases hv
      have hgn : g < n₀ := HLT.out g (.inr (.inr rfl))
      obtain ⟨hJ1, hB1⟩ := HJJ.out
      have d0 := (hB1.cell (p := ⟨g, j, none⟩) (by exact hgn)).trans (hss.cellAt j (by omega))
      rw [ptrCells_at _ j (by rw [kidsP_len, ← HLE.out]; exact hjl), kidsP_at _ _ (by rw [← HLE.out]; exact hjl)] at d0
      obtain ⟨c, hcd⟩ : ∃ c, c = ks.getD j default := ⟨_, rfl⟩
      rw [← hcd] at d0
      have hcm : c ∈ ks := by rw [hcd]; exact getD_mem _ _ (by rw [← HLE.out]; exact hjl)
      have hst := take_snoc ks j (by rw [← HLE.out]; exact hjl)
      rw [← hcd] at hst
      have hkl : kidsL (ks.take (j + 1)) = kidsL (ks.take j) ++ c.L := by rw [hst, kidsL_append]; simp [kidsL]
      have hks : kidsL ks = kidsL (ks.take (j + 1)) ++ kidsL (ks.drop (j + 1)) := by rw [← kidsL_append, List.take_append_drop]
      have hcF : ∀ x, c.F x → x < n₀ := fun x hx => HKL.out x ⟨c, hcm, hx⟩
      have hll : (pre ++ kidsL (ks.take j)) ++ c.L <+: N := by
        have := HN.out
        rw [hks, hkl] at this
        refine List.IsPrefix.trans ?_ this
        rw [List.append_assoc]
        exact (List.prefix_append_right_inj pre).2 (List.prefix_append _ _)
      have hE := HIH.out c (pre ++ kidsL (ks.take j)) wr ((HC.out c hcm).1.keep fun x hx => hB1.block x (hcF x hx)) (HC.out c hcm).2.2 hcF (Nat.le_trans hnW hB1.size) hJ1 hll
      have HE := Lib.hid hE
      have HKS := Lib.hid (And.intro hkl hks)
      have HB1 := Lib.hid hB1
      clear hE hss hJ1 hB1 HJJ hcd hcm hst hkl hks hcF hll
      gi_wp2
      refine ⟨trivial, ?_⟩
      refine ⟨fun h => (by cases h), ?_⟩
      gi_at_call 39
      refine HE.out.mono ?_
      rintro e W3 (⟨rfl, hJ3, hk3⟩ | ⟨rfl, q, hq, hJx3⟩)
      · gi_wp2
        go_roundw
        case rel => exact ⟨j + 1, by omega, by go_num, Lib.hid ⟨by rw [HKS.out.1, ← List.append_assoc]; exact hJ3, HB1.out.trans hk3⟩⟩
        case measure => simp [intOf]; omega
      · gi_wp2
        go_ret
        obtain ⟨r, hr⟩ := hq
        exact .inr ⟨rfl, kidsL (ks.take j) ++ q, ⟨r ++ kidsL (ks.drop (j + 1)), by rw [HKS.out.2, HKS.out.1, ← hr]; simp⟩, by rw [← List.append_assoc]; exact hJx3⟩
    · obtain rfl : j = len := by omega
      obtain ⟨hJ1, hB1⟩ := HJJ.out
      rw [List.take_of_length_le (by rw [HLE.out]; exact Nat.le_refl _)] at hJ1
      have b0 := (hB1.cell (p := ⟨p, 0, none⟩) (by exact hp)).trans a0
      have HJ1 := Lib.hid (And.intro hJ1 hB1)
      clear HJJ hJ1 hB1
      gi_wp2
      gi_loopw [28] (fun i w2 => i = .int .i64 0 ∧ wr = w2) (fun _ _ => 0)
      case atStart => exact ⟨rfl, rfl⟩
      case round =>
        obtain ⟨rfl, rfl⟩ := hrel
        gi_wp2
        go_ret
        exact .inl ⟨rfl, HJ1.out.1, HJ1.out.2⟩
theorem each_in (l n₀ : Nat) (N : List Row) (J Jx : List Row → World → Prop) (hJ : ∀ pre W o, J pre W → J pre (W.alloc o))
    (hY : ∀ m pre x W, J pre W → pre ++ [x] <+: N → n₀ ≤ W.heap.size → YieldAt Fence.wide m Try.prog l (rowArgs x) W fun e W' =>
      (e = .returned (.bool true) ∧ J (pre ++ [x]) W' ∧ Below n₀ W W') ∨ (e = .returned (.bool false) ∧ Jx (pre ++ [x]) W')) (B lo : Nat) :
    ∀ (h n : Nat) (k : Kid) (pre : List Row) (W : World), TreeAt W B lo h k → k.e ≤ 8 → (∀ x, k.F x → x < n₀) → n₀ ≤ W.heap.size → J pre W → pre ++ k.L <+: N →
      CallsIn Fence.wide n Try.prog 39 #[.pointer (some ⟨k.p, 0, none⟩), .func (.yield l) #[] #[]] W (EachOk n₀ J Jx pre k.L W)
  | 0, n, k, pre, W, ⟨rv, sv, hn, he, hF⟩, h8, hlt, hnW, h0, hN => each_leaf l n₀ N J Jx hJ hY n B k.p rv sv k.L _ pre W hn (fun x hx => hlt x (by rw [hF]; exact hx)) hnW h0 hN (by omega)
  | h + 1, n, k, pre, W, ⟨rv, sv, ks, hn, he, hL, hF, hc, hap, hno⟩, h8, hlt, hnW, h0, hN => by
    rw [hL] at hN ⊢
    exact each_node l n₀ N J Jx n B lo h k.p rv sv ks _ pre W (fun k pre W t h8 hlt hnW h0 hN => each_in l n₀ N J Jx hJ hY B lo h (n - 1) k pre W t h8 hlt hnW h0 hN) hn hc (fun x hx => hlt x (by rw [hF]; exact .inl hx)) (fun x hx => hlt x (by rw [hF]; exact .inr hx)) hnW h0 hN (by omega)
set_option maxRecDepth 100000 in
set_option maxHeartbeats 2000000 in
theorem all_in (l n₀ : Nat) (N : List Row) (J Jx : List Row → World → Prop) (hJ : ∀ pre W o, J pre W → J pre (W.alloc o))
    (hY : ∀ m pre x W, J pre W → pre ++ [x] <+: N → n₀ ≤ W.heap.size → YieldAt Fence.wide m Try.prog l (rowArgs x) W fun e W' =>
      (e = .returned (.bool true) ∧ J (pre ++ [x]) W' ∧ Below n₀ W W') ∨ (e = .returned (.bool false) ∧ Jx (pre ++ [x]) W'))
    (n : Nat) {W : World} {B lo h t : Nat} {k : Kid} (a : TabAt W B lo h t k) (hlt : ∀ x, tabF t k x → x < n₀) (hnW : n₀ ≤ W.heap.size) (h0 : J [] W) (hN : k.L <+: N) :
    CallsIn Fence.wide n Try.prog 18 #[.pointer (some ⟨t, 0, none⟩), .func (.yield l) #[] #[]] W fun e W' => (∃ v, e = .returned v) ∧ (J k.L W' ∨ ∃ pre, pre <+: k.L ∧ Jx pre W') := by
  have c1 := a.cell
  have HE := Lib.hid (each_in l n₀ N J Jx hJ hY B lo h (n - 1) k [] W a.tree a.e8 (fun x hx => hlt x (.inr hx)) hnW h0 (by simpa using hN))
  clear a hY hJ hlt
  refine callsIn_of_wp Try.func18 rfl trivial ?_ rfl
  simp only [Try.ntmps18, List.size_toArray, List.length_cons, List.length_nil, Nat.reduceAdd, Nat.reduceSub, Array.replicate_succ, Array.replicate_zero, List.push_toArray, List.append_toArray, List.nil_append, List.cons_append]
  gi_wp2
  refine ⟨trivial, ?_⟩
  refine ⟨fun h => (by cases h), ?_⟩
  gi_at_call 39
  refine HE.out.mono ?_
  rintro e W3 (⟨rfl, hJ3, hk3⟩ | ⟨rfl, q, hq, hJx3⟩)
  · gi_wp2
    go_end0
    exact ⟨⟨_, rfl⟩, .inl (by simpa using hJ3)⟩
  · gi_wp2
    go_end0
    exact ⟨⟨_, rfl⟩, .inr ⟨q, hq, by simpa using hJx3⟩⟩
/-- A loop over t.All (a method's value: the law for it, made of the kit's steps). -/
theorem wpIn_rangeAll {g : Operand} {ps : Array Tmp} {assign body : Code} {Q : Exit → Act → World → Prop} {a : Act} {w : World} (n : Nat) {B lo h t : Nat} {k : Kid}
    (hg : a.eval g = .func (.func 18) #[.pointer (some ⟨t, 0, none⟩)] #[]) (hps : ps.size = 2) (tab : TabAt w B lo h t k) (n₀ : Nat) (hn₀ : n₀ ≤ w.heap.size) (hlt : ∀ x, tabF t k x → x < n₀)
    (I : List Row → World → Prop) (Ix : Code → List Row → World → Prop) (hI : OwnFrom w.heap.size I) (hIx : ∀ c, OwnFrom w.heap.size (Ix c)) (h0 : I [] w) (a₁ : Row → Act)
    (hassign : ∀ (l m : Nat) (x : Row) (W : World) (K : Act → World → Prop), K (a₁ x) W →
      assign.wpIn (Fence.wide.inRound l) m Try.prog (Exit.then K (fun _ _ _ => False)) { tmps := (ps.zip (rowArgs x)).foldl (fun t (p, v) => t.setIfInBounds p v) a.tmps, defers := [] } W)
    (hbody : ∀ (l m : Nat) (pre : List Row) (x : Row) (W : World), I pre W → pre ++ [x] <+: k.L → w.heap.size ≤ W.heap.size → body.wpIn (Fence.wide.inRound l) m Try.prog (ownPostK (Below n₀) I Ix (pre ++ [x]) W) (a₁ x) W)
    (hdone : ∀ (D : Nat) (W : World), w.heap.size ≤ D → I k.L W → W.heap[D]? = some (.deferred (some [])) → Q .normal { a with defers := { target := .collected D, args := #[] } :: a.defers } W)
    (hstop : ∀ (D : Nat) (c : Code) (pre : List Row) (W : World), w.heap.size ≤ D → pre <+: k.L → Ix c pre W → W.heap[D]? = some (.deferred (some [])) → c.wpIn Fence.wide n Try.prog Q { a with defers := { target := .collected D, args := #[] } :: a.defers } W) :
    (Code.rangeFunc g ps assign body).wpIn Fence.wide n Try.prog Q a w := by
  refine wpIn_rangeFunc ?_
  intro fn _
  -- the loop's record, by its state and its pending jump
  obtain ⟨rc, hrc⟩ : ∃ rc : LoopState → Option Code → Loop, rc = fun st pe => { state := st, pending := pe, fn, tmps := a.tmps, params := ps, assign, body, defers := w.heap.size } := ⟨_, rfl⟩
  obtain ⟨l, hl⟩ : ∃ l, l = w.heap.size + 1 := ⟨_, rfl⟩
  obtain ⟨D, hD⟩ : ∃ D, D = w.heap.size := ⟨_, rfl⟩
  obtain ⟨w1, hw1⟩ : ∃ w1, (w.alloc (.deferred (some []))).alloc (.loop (rc .ready none)) = w1 := ⟨_, rfl⟩
  have b1 : Below w.heap.size w w1 := by rw [← hw1]; exact ((Below.refl _ w).alloc (Nat.le_refl _) _).alloc (by simp) _
  have s1 : w1.heap.size = w.heap.size + 2 := by rw [← hw1]; simp
  have r1 : w1.heap[l]? = some (.loop (rc .ready none)) := by
    have := World.alloc_heap_new (w.alloc (.deferred (some []))) (.loop (rc .ready none))
    rw [World.size_alloc, hw1, ← hl] at this
    exact this
  have d1 : w1.heap[D]? = some (.deferred (some [])) := by
    rw [← hw1, hD]; exact (Below.heap_alloc _ _ _ (by simp)).trans (World.alloc_heap_new w _)
  have i1 : I [] w1 := by rw [← hw1]; exact hI.alloc _ (hI.alloc _ h0)
  have hlD : w.heap.size ≤ l := by omega
  have hDD : w.heap.size ≤ D := by omega
  refine ⟨l, [{ target := .collected D, args := #[] }], w1, { target := .fn (.func 18) #[], args := #[.pointer (some ⟨t, 0, none⟩), .func (.yield l) #[] #[]] }, w1, 18,
    #[.pointer (some ⟨t, 0, none⟩), .func (.yield l) #[] #[]], w1, ?_, ?_, fun _ _ => trivial, ?_, fun h => (by cases h), ?_⟩
  · rw [← hw1, hrc, hl, hD]; exact run_enterLoop_outer _ _ _ _ _
  · simp only [resolve, hg]
    simp [go_sem, Deferred.ofValue]
  · simp [invoke, go_sem, enters_fn Try.func18 (by kernel_rfl) rfl]
  · refine (all_in l n₀ k.L (fun pre W => I pre W ∧ W.heap[l]? = some (.loop (rc .ready none)) ∧ W.heap[D]? = some (.deferred (some [])))
      (fun pre W => ∃ c, Ix c pre W ∧ W.heap[l]? = some (.loop (rc .done (some c))) ∧ W.heap[D]? = some (.deferred (some [])))
      (fun pre W o ⟨hi, hr, hd⟩ => ⟨hI.alloc o hi, (Below.heap_alloc W o l (lt_of_block hr)).trans hr, (Below.heap_alloc W o D (lt_of_block hd)).trans hd⟩)
      ?round (n - 1) (tab.below b1) hlt (by omega) ⟨i1, r1, d1⟩ (List.prefix_refl _)).mono ?over
    case round =>
      rintro m pre x W ⟨hi, hr, hd⟩ hlen _
      have hll : l < W.heap.size := lt_of_block hr
      have hy := run_yield (P := Try.prog) (args := rowArgs x) hr (by rw [hrc]; exact hps.symm)
      rw [hrc] at hy
      obtain ⟨Wb, hWb⟩ : ∃ Wb, Wb = W.putObj l (.loop (rc .busy none)) := ⟨_, rfl⟩
      have rb : Wb.heap[l]? = some (.loop (rc .busy none)) := by rw [hWb]; exact World.putObj_heap_same hll
      have db : Wb.heap[D]? = some (.deferred (some [])) := by rw [hWb]; exact (World.putObj_heap_other (by omega)).trans hd
      have ib : I pre Wb := by rw [hWb]; exact hI.putObj _ hi hlD hr rfl
      have bb : Below n₀ W Wb := by rw [hWb]; exact belowK_b (w := w) hn₀ W l _ _ hlD hr rfl rfl
      have key : ∀ (j : Option Code) (W3 : World), KeepsOthers Wb W3 → W3.heap[l]? = some (.loop (rc .busy none)) ∧
          (Instr.endRound l j).run Try.prog W3 = .ok (.bool j.isNone) (W3.putObj l (.loop (rc (if j.isNone then .ready else .done) j))) ∧
          (W3.putObj l (.loop (rc (if j.isNone then .ready else .done) j))).heap[l]? = some (.loop (rc (if j.isNone then .ready else .done) j)) ∧
          (W3.putObj l (.loop (rc (if j.isNone then .ready else .done) j))).heap[D]? = some (.deferred (some [])) := fun j W3 hk => by
        have r3 := hk.same l _ rb rfl
        refine ⟨r3, ?_, World.putObj_heap_same (lt_of_block r3), (World.putObj_heap_other (by omega)).trans (hk.same D _ db rfl)⟩
        have := run_endRound (P := Try.prog) j r3
        rw [hrc] at this ⊢
        exact this
      have leave : ∀ (c : Code) (W3 : World), KeepsOthers Wb W3 → Ix c (pre ++ [x]) W3 → ∃ v W4, (Instr.endRound l (some c)).run Try.prog W3 = .ok v W4 ∧
          (((Ending.returned v = .returned (.bool true)) ∧ (I (pre ++ [x]) W4 ∧ W4.heap[l]? = some (.loop (rc .ready none)) ∧ W4.heap[D]? = some (.deferred (some []))) ∧ Below n₀ W W4) ∨
           (Ending.returned v = .returned (.bool false) ∧ ∃ c, Ix c (pre ++ [x]) W4 ∧ W4.heap[l]? = some (.loop (rc .done (some c))) ∧ W4.heap[D]? = some (.deferred (some [])))) := fun c W3 hk hx => by
        obtain ⟨r3, he, r4, d4⟩ := key (some c) W3 hk
        exact ⟨_, _, he, .inr ⟨rfl, c, (hIx c).putObj _ hx hlD r3 rfl, r4, d4⟩⟩
      refine ⟨fn, _, assign, body, hy, roundIn_of_wpIn trivial (hassign l m x W _ ⟨Wb, ?_, wpIn_mono (hbody l m pre x Wb ib hlen (by have := bb.size; omega)) ?_⟩)⟩
      · have := run_beginRound (P := Try.prog) hr (by rw [hrc])
        rw [hWb, hrc]
        rw [hrc] at this
        exact this
      rintro e a3 W3 hp
      cases e with
      | normal =>
        obtain ⟨hk, hb3, hi3⟩ := hp
        obtain ⟨r3, he, r4, d4⟩ := key none W3 hk
        exact ⟨_, _, he, .inl ⟨rfl, ⟨hI.putObj _ hi3 hlD r3 rfl, r4, d4⟩, (bb.trans hb3).trans (belowK_b (w := w) hn₀ W3 l _ _ hlD r3 rfl rfl)⟩⟩
      | ret => exact leave .ret W3 hp.1 hp.2
      | exit id => exact leave (.exit id) W3 hp.1 hp.2
      | goto u => exact leave (.goto u) W3 hp.1 hp.2
      | panic ch => exact hp.elim
      | outgrown => exact hp.elim
    case over =>
      rintro e W2 ⟨⟨v, rfl⟩, ⟨hi, hr, hd⟩ | ⟨pre, hpre, c, hx, hr, hd⟩⟩
      · have := run_endLoop (P := Try.prog) hr (by rw [hrc]; simp)
        rw [hrc] at this
        exact ⟨none, _, this, hdone D _ hDD (hI.putObj _ hi hlD hr rfl) ((World.putObj_heap_other (by omega)).trans hd)⟩
      · have := run_endLoop (P := Try.prog) hr (by rw [hrc]; simp)
        rw [hrc] at this
        exact ⟨some c, _, this, hstop D c pre _ hDD hpre ((hIx c).putObj _ hx hlD hr rfl) ((World.putObj_heap_other (by omega)).trans hd)⟩
end Go.Proofs.Ytdgapagpmdfndaa
