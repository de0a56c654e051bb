/- LAYER 13 (tabula): sub, and the tests that are handed to first. -/
import Derived.Test.YtdgapagpmdfndaaTabB
namespace Go.Proofs.Ytdgapagpmdfndaa
open Go.RowKit
set_option linter.unusedVariables false
theorem enters_fn {f : FuncId} {fn : Func} {c : Code} (hf : Try.prog.funcs[f]? = some fn) (hname : (fn.name == "runtime.NumGoroutine") = false) (hb : fn.body = some c) : ∀ (args : Array Value) (w : World), (callFunc f args).run Try.prog w = .ok (.enter f args) w := by
  intro args w
  have hn : ¬ fn.name = "runtime.NumGoroutine" := by simpa using hname
  simp [callFunc, hf, hn, hb]
set_option maxRecDepth 100000 in
set_option maxHeartbeats 1000000 in
theorem sub1_any {w : World} {B lo h : Nat} {c : Kid} (hlo : 1 ≤ lo) (t : TreeAt w B lo h c) (h1 : 1 ≤ c.e) (he : c.e ≤ 1000) (kb : Nat) (key : Int) (hk : w.cell? ⟨kb, 0, none⟩ = some (.int .i64 key)) :
    Calls Try.prog 54 #[.pointer (some ⟨c.p, 0, none⟩), .pointer (some ⟨kb, 0, none⟩)] w fun e w' => e = .returned (.bool (decide (key ≤ lastK c.L))) ∧ Below w.heap.size w w' := by
  have HL := Lib.hid (fun w' (hb : Below w.heap.size w w') => last_any hlo (t.below hb) h1 he)
  generalize lastK c.L = lk at *
  generalize c.p = p at *
  have HKS : Hid (∀ w' w2 : World, (w'.cell? ⟨kb, 0, none⟩ = some (.int .i64 key) ∧ Below w.heap.size w w') → Below w'.heap.size w' w2 → (w2.cell? ⟨kb, 0, none⟩ = some (.int .i64 key) ∧ Below w.heap.size w w2)) := Lib.hid fun w' w2 h1 h2 => ⟨(h2.cell (by exact block_lt_of_cell h1.1)).trans h1.1, h1.2.trans (h2.mono h1.2.size)⟩
  clear t h1 he
  go_enter Try.func54, Try.ntmps54
  go_wp2_with fail
  go_region_held3 (fun w' => w'.cell? ⟨kb, 0, none⟩ = some (.int .i64 key) ∧ Below w.heap.size w w')
    (first | exact HKS.out _ _ (by assumption) (by assumption) | exact ⟨hk, (Below.refl _ _).drew⟩ | go_keep)
    (first | (go_at_call 55; refine (HL.out _ (And.right (by assumption))).mono ?_; rintro e w' ⟨rfl, hba⟩))
  have hbF := And.right (by assumption : w'.cell? ⟨kb, 0, none⟩ = some (.int .i64 key) ∧ Below w.heap.size w w')
  go_wp2_with fail
  go_ret
  exact ⟨rfl, hbF⟩
/-- The part below in which a key is, or would be. -/
def IsSub (ks : List Kid) (key : Int) (t : Nat) : Prop := t < ks.length ∧ (∀ i, i < t → lastK (ks.getD i default).L < key) ∧ (t + 1 = ks.length ∨ key ≤ lastK (ks.getD t default).L)
set_option maxRecDepth 100000 in
set_option maxHeartbeats 2000000 in
theorem sub_any {w : World} {B lo h p : Nat} {rv sv : Value} {rows : List Row} {m : Int} {ks : List Kid} (hlo : 1 ≤ lo) (hn : NodeAt w B p rv sv rows (kidsP ks) m) (hc : ∀ c ∈ ks, TreeAt w B lo h c ∧ lo ≤ c.e ∧ c.e ≤ 8) (h0 : 0 < ks.length) (h8 : ks.length ≤ 1000)
    (hmono : ∀ i j, i ≤ j → j < ks.length → lastK (ks.getD i default).L ≤ lastK (ks.getD j default).L) (key : Int) :
    Calls Try.prog 40 #[.pointer (some ⟨p, 0, none⟩), .int .i64 key] w fun e w' => (∃ t : Nat, e = .returned (.int .i64 (t : Int)) ∧ IsSub ks key t) ∧ Below w.heap.size w w' := by
  obtain ⟨_, c1, _⟩ := hn.cells
  obtain ⟨n, hnn⟩ : ∃ n, ks.length = n + 1 := ⟨ks.length - 1, by omega⟩
  have hss := hn.ss
  obtain ⟨sa, sc, rfl⟩ := hss.len
  have hlt : p < w.heap.size := lt_of_block hn.row
  have hbx : Below w.heap.size w (w.alloc (.cells #[.int .i64 key] 3)) := (Below.refl _ _).alloc (Nat.le_refl _) _
  have kbx : (w.alloc (.cells #[.int .i64 key] 3)).cell? ⟨w.heap.size, 0, none⟩ = some (.int .i64 key) := by
    rw [cell_of_row _ _ 0 _ _ _ (heap_alloc_new _ _)]; rfl
  have HFI : Hid (∀ w', Below (w.heap.size + 1) (w.alloc (.cells #[.int .i64 key] 3)) w' → Calls Try.prog 53 #[.slice sa (n + 1) sc, .func (.func 54) #[] #[.pointer (some ⟨w.heap.size, 0, none⟩)]] w' fun e w2 => (∃ t : Nat, e = .returned (.int .i64 (t : Int)) ∧ IsFirst (n + 1) (fun i => decide (key ≤ lastK (ks.getD i default).L)) t) ∧ Below w'.heap.size w' w2) := Lib.hid fun w' hb' => by
    have hb2 : Below w.heap.size w w' := hbx.trans (hb'.mono (by omega))
    have hsz : w.heap.size + 1 ≤ w'.heap.size := by have := hb'.size; simp at this; exact this
    have := firstP_any 54 (.pointer (some ⟨w.heap.size, 0, none⟩)) B (.slice sa (kidsP ks).length sc) (kidsP ks) w' (hss.below hb2) (by rw [kidsP_len]; omega) (fun i => decide (key ≤ lastK (ks.getD i default).L)) (enters_fn Try.func54 (by kernel_rfl) rfl)
      (fun w2 i hbi hi => by
        rw [kidsP_len] at hi
        rw [kidsP_at _ _ hi]
        have hcm := hc _ (getD_mem ks i hi)
        have hb3 : Below w.heap.size w w2 := hb2.trans (hbi.mono hb2.size)
        refine sub1_any hlo (hcm.1.below hb3) (by have := hcm.2.1; omega) (by have := hcm.2.2; omega) w.heap.size key ?_
        rw [hbi.cell (by exact Nat.lt_of_lt_of_le (Nat.lt_succ_self _) hsz), hb'.cell (by exact Nat.lt_succ_self _)]
        exact kbx)
      (fun i j hij hj hp => by
        rw [kidsP_len] at hj
        have := hmono i j hij hj
        simp only [decide_eq_true_eq] at hp ⊢
        omega)
    rw [kidsP_len, hnn] at this
    exact this
  have HEN : Hid (∀ t : Nat, IsFirst (n + 1) (fun i => decide (key ≤ lastK (ks.getD i default).L)) t → IsSub ks key (min t n)) := Lib.hid fun t ht => by
    obtain ⟨t1, t2, t3⟩ := ht
    refine ⟨by omega, fun i hi => ?_, ?_⟩
    · have := t2 i (by omega)
      simp only [decide_eq_false_iff_not] at this
      omega
    · by_cases htn : t ≤ n
      · rw [Nat.min_eq_left htn]
        have := t3 t (Nat.le_refl _) (by omega)
        simp only [decide_eq_true_eq] at this
        exact .inr this
      · left; omega
  rw [kidsP_len, hnn] at c1
  have HKS : Hid (∀ w' w2 : World, (w'.cell? ⟨p, 1, none⟩ = some (.slice sa (n + 1) sc) ∧ Below (w.heap.size + 1) (w.alloc (.cells #[.int .i64 key] 3)) w') → Below w'.heap.size w' w2 → (w2.cell? ⟨p, 1, none⟩ = some (.slice sa (n + 1) sc) ∧ Below (w.heap.size + 1) (w.alloc (.cells #[.int .i64 key] 3)) w2)) := Lib.hid fun w' w2 h1 h2 => ⟨(h2.cell (by exact block_lt_of_cell h1.1)).trans h1.1, h1.2.trans (h2.mono (by have := h1.2.size; simp at this; omega))⟩
  have c1' : (w.alloc (.cells #[.int .i64 key] 3)).cell? ⟨p, 1, none⟩ = some (.slice sa (n + 1) sc) := (hbx.cell (by exact hlt)).trans c1
  have HC1 := Lib.hid c1'
  have z1 : IntKind.i64.wrap (n : Int) = (n : Int) := by rw [IntKind.wrap_i64]; omega
  have HBX := Lib.hid hbx
  clear hn hc hmono hss hnn h0 c1 c1' kbx hbx
  go_enter Try.func40, Try.ntmps40
  go_wp2_with fail
  go_region_held3 (fun w' => w'.cell? ⟨p, 1, none⟩ = some (.slice sa (n + 1) sc) ∧ Below (w.heap.size + 1) (w.alloc (.cells #[.int .i64 key] 3)) w')
    (first | exact HKS.out _ _ (by assumption) (by assumption) | exact ⟨HC1.out, (Below.refl _ _).drew⟩ | go_keep)
    (first | (go_at_call 53; refine (HFI.out _ (And.right (by assumption))).mono ?_; rintro e w' ⟨⟨t, rfl, htt⟩, hba⟩))
  have hbF := And.right (by assumption : w'.cell? ⟨p, 1, none⟩ = some (.slice sa (n + 1) sc) ∧ Below (w.heap.size + 1) (w.alloc (.cells #[.int .i64 key] 3)) w')
  have hbG := HBX.out.trans (hbF.mono (Nat.le_succ _))
  have hS := HEN.out t htt
  by_cases hnt : n < t
  · have hnt2 : (n : Int) < (t : Int) := by omega
    rw [Nat.min_eq_right (by omega)] at hS
    go_wp2_with fail
    go_ret
    exact ⟨⟨n, rfl, hS⟩, hbG⟩
  · have hnt2 : ¬ (n : Int) < (t : Int) := by omega
    rw [Nat.min_eq_left (by omega)] at hS
    go_wp2_with fail
    go_ret
    exact ⟨⟨t, rfl, hS⟩, hbG⟩
set_option maxRecDepth 100000 in
theorem put1_any (w : World) (x : Row) (kb : Nat) (key : Int) (hk : w.cell? ⟨kb, 0, none⟩ = some (.int .i64 key)) :
    Calls Try.prog 45 #[.agg #[.int .i64 x.1, .int .i64 x.2], .pointer (some ⟨kb, 0, none⟩)] w fun e w' => e = .returned (.bool (decide (key ≤ x.1))) ∧ Below w.heap.size w w' := by
  have hb : Below w.heap.size w (w.alloc (.cells #[.int .i64 x.1, .int .i64 x.2] 68)) := (Below.refl _ _).alloc (Nat.le_refl _) _
  have hk2 := (hb.cell (by exact block_lt_of_cell hk)).trans hk
  go_enter Try.func45, Try.ntmps45
  go_wp2_with fail
  go_ret
  exact ⟨rfl, hb⟩
set_option maxRecDepth 100000 in
theorem drop1_any (w : World) (x : Row) (kb : Nat) (key : Int) (hk : w.cell? ⟨kb, 0, none⟩ = some (.int .i64 key)) :
    Calls Try.prog 51 #[.agg #[.int .i64 x.1, .int .i64 x.2], .pointer (some ⟨kb, 0, none⟩)] w fun e w' => e = .returned (.bool (decide (key ≤ x.1))) ∧ Below w.heap.size w w' := by
  have hb : Below w.heap.size w (w.alloc (.cells #[.int .i64 x.1, .int .i64 x.2] 68)) := (Below.refl _ _).alloc (Nat.le_refl _) _
  have hk2 := (hb.cell (by exact block_lt_of_cell hk)).trans hk
  go_enter Try.func51, Try.ntmps51
  go_wp2_with fail
  go_ret
  exact ⟨rfl, hb⟩
set_option maxRecDepth 100000 in
theorem rank1_any (w : World) (x : Row) (kb : Nat) (key : Int) (hk : w.cell? ⟨kb, 0, none⟩ = some (.int .i64 key)) :
    Calls Try.prog 42 #[.agg #[.int .i64 x.1, .int .i64 x.2], .pointer (some ⟨kb, 0, none⟩)] w fun e w' => e = .returned (.bool (decide (key ≤ x.1))) ∧ Below w.heap.size w w' := by
  have hb : Below w.heap.size w (w.alloc (.cells #[.int .i64 x.1, .int .i64 x.2] 68)) := (Below.refl _ _).alloc (Nat.le_refl _) _
  have hk2 := (hb.cell (by exact block_lt_of_cell hk)).trans hk
  go_enter Try.func42, Try.ntmps42
  go_wp2_with fail
  go_ret
  exact ⟨rfl, hb⟩
/-- Rows, split at a key. -/
def IsCut (l : List Row) (key : Int) (t : Nat) : Prop := t ≤ l.length ∧ (∀ i, i < t → (l.getD i default).1 < key) ∧ (∀ i, t ≤ i → i < l.length → key ≤ (l.getD i default).1)
theorem cut_any (fn : Nat) {w : World} {B : Nat} {v : Value} {l : List Row} (kb : Nat) (key : Int) (ho : OwnS w B 68 2 v l.length (rowCells l)) (hn : l.length ≤ 1000) (hk : w.cell? ⟨kb, 0, none⟩ = some (.int .i64 key))
    (hs : ∀ i j, i ≤ j → j < l.length → (l.getD i default).1 ≤ (l.getD j default).1) (hent : ∀ args w, (callFunc fn args).run Try.prog w = .ok (.enter fn args) w)
    (hfn : ∀ (w : World) (x : Row), w.cell? ⟨kb, 0, none⟩ = some (.int .i64 key) → Calls Try.prog fn #[.agg #[.int .i64 x.1, .int .i64 x.2], .pointer (some ⟨kb, 0, none⟩)] w fun e w' => e = .returned (.bool (decide (key ≤ x.1))) ∧ Below w.heap.size w w') :
    Calls Try.prog 41 #[v, .func (.func fn) #[] #[.pointer (some ⟨kb, 0, none⟩)]] w fun e w' => (∃ t : Nat, e = .returned (.int .i64 (t : Int)) ∧ IsCut l key t) ∧ Below w.heap.size w w' := by
  refine (firstR_any fn (.pointer (some ⟨kb, 0, none⟩)) B v l w ho (by omega) (fun i => decide (key ≤ (l.getD i default).1)) hent (fun w2 i hb hi => hfn w2 _ ((hb.cell (by exact block_lt_of_cell hk)).trans hk)) fun i j hij hj hp => ?_).mono ?_
  · have := hs i j hij hj
    simp only [decide_eq_true_eq] at hp ⊢
    omega
  · rintro e w' ⟨⟨t, rfl, t1, t2, t3⟩, hb⟩
    refine ⟨⟨t, rfl, t1, fun i hi => ?_, fun i h1 h2 => ?_⟩, hb⟩
    · have := t2 i hi
      simp only [decide_eq_false_iff_not] at this
      omega
    · have := t3 i h1 h2
      simpa using this
end Go.Proofs.Ytdgapagpmdfndaa
