/- LAYER 13 (tabula): the document's Put. -/
import Derived.Test.YtdgapagpmdfndaaTabW
namespace Go.Proofs.Ytdgapagpmdfndaa
open Go.RowKit
set_option linter.unusedVariables false
/-- The document's Put, behind i rows. -/
structure PutSt (l : List Row) (key v : Int) (i : Nat) (done : Bool) (out : List Row) (was : Int) (is : Bool) : Prop where
  no : done = false → out = (l.take i).filter (fun x => decide (x.1 < key)) ∧ ∀ y ∈ l.take i, y.1 ≤ key
  yes : done = true → out = insL (l.take i) key v ∧ ∃ y ∈ l.take i, key < y.1
  was : was = (getL (l.take i) key).getD 0
  is : is = (getL (l.take i) key).isSome
  len : out.length ≤ i + 1
theorem getL_snoc_ne {a : List Row} {x : Row} {key : Int} (h : x.1 ≠ key) : getL (a ++ [x]) key = getL a key := by
  unfold getL
  rw [List.find?_append]
  cases h1 : a.find? (fun x => decide (x.1 = key)) with
  | none => simp [h]
  | some y => simp
theorem getL_snoc_eq {a : List Row} {x : Row} {key : Int} (h : x.1 = key) (ha : ∀ y ∈ a, y.1 < x.1) : getL (a ++ [x]) key = some x.2 := by
  unfold getL
  rw [List.find?_append, find_none fun y hy => by have := ha y hy; simp; omega]
  simp [h]
theorem sorted_take {l : List Row} (hs : Sorted l) {i : Nat} (hi : i < l.length) : l.take (i + 1) = l.take i ++ [l.getD i default] ∧ ∀ y ∈ l.take i, y.1 < (l.getD i default).1 := by
  refine ⟨take_snoc l i hi, fun y hy => ?_⟩
  have e : l = l.take i ++ l.getD i default :: l.drop (i + 1) := by
    have e : l.getD i default = l[i] := by simp [hi]
    rw [e, ← List.drop_eq_getElem_cons hi, List.take_append_drop]
  rw [e] at hs
  exact (sorted_app hs).2.2 y hy _ List.mem_cons_self
theorem PutSt.zero (l : List Row) (key v : Int) : PutSt l key v 0 false [] 0 false := ⟨fun _ => ⟨by simp, fun y hy => by simp at hy⟩, (fun h => by cases h), by simp [getL], by simp [getL], by simp⟩
theorem PutSt.same {l : List Row} (hs : Sorted l) {key v : Int} {i : Nat} {done : Bool} {out : List Row} {was : Int} {is : Bool} (h : PutSt l key v i done out was is) (hi : i < l.length) (hk : (l.getD i default).1 = key) : PutSt l key v (i + 1) done out (l.getD i default).2 true := by
  obtain ⟨e, hb⟩ := sorted_take hs hi
  generalize l.getD i default = x at *
  refine ⟨fun hd => ?_, fun hd => ?_, ?_, ?_, by have := h.len; omega⟩
  · rw [e]
    refine ⟨by rw [(h.no hd).1, List.filter_append]; simp [hk], fun y hy => ?_⟩
    rcases List.mem_append.1 hy with hy | hy
    · exact (h.no hd).2 y hy
    · obtain rfl := List.mem_singleton.1 hy
      omega
  · obtain ⟨_, y, hy, hlt⟩ := h.yes hd
    have := hb y hy
    omega
  · rw [e, getL_snoc_eq hk hb]; rfl
  · rw [e, getL_snoc_eq hk hb]; rfl
theorem PutSt.start {l : List Row} (hs : Sorted l) {key v : Int} {i : Nat} {out : List Row} {was : Int} {is : Bool} (h : PutSt l key v i false out was is) (hi : i < l.length) (hk : key < (l.getD i default).1) : PutSt l key v (i + 1) true (out ++ [(key, v)] ++ [l.getD i default]) was is := by
  obtain ⟨e, hb⟩ := sorted_take hs hi
  generalize l.getD i default = x at *
  have hle : ((l.take i).filter (fun x => decide (key < x.1))) = [] := filter_none fun y hy => by have := (h.no rfl).2 y hy; simp; omega
  refine ⟨(fun hd => by cases hd), fun _ => ⟨?_, x, by rw [e]; simp, hk⟩, ?_, ?_, ?_⟩
  · rw [e, (h.no rfl).1]
    unfold insL
    rw [List.filter_append, List.filter_append, hle]
    have h1 : ¬ x.1 < key := by omega
    simp only [List.filter_cons, List.filter_nil, h1, hk, decide_true, decide_false, if_true]
    simp
  · rw [e, getL_snoc_ne (by omega)]; exact h.was
  · rw [e, getL_snoc_ne (by omega)]; exact h.is
  · have := (h.no rfl).1
    have h2 : out.length ≤ i := by
      rw [this]
      refine Nat.le_trans (List.length_filter_le _ _) ?_
      rw [List.length_take]; omega
    simp only [List.length_append, List.length_cons, List.length_nil]
    omega
theorem PutSt.after {l : List Row} (hs : Sorted l) {key v : Int} {i : Nat} {out : List Row} {was : Int} {is : Bool} (h : PutSt l key v i true out was is) (hi : i < l.length) : PutSt l key v (i + 1) true (out ++ [l.getD i default]) was is ∧ key < (l.getD i default).1 := by
  obtain ⟨e, hb⟩ := sorted_take hs hi
  generalize l.getD i default = x at *
  obtain ⟨ho, y, hy, hlt⟩ := h.yes rfl
  have hk : key < x.1 := by have := hb y hy; omega
  refine ⟨⟨(fun hd => by cases hd), fun _ => ⟨?_, y, by rw [e]; exact List.mem_append_left _ hy, hlt⟩, ?_, ?_, by have := h.len; simp; omega⟩, hk⟩
  · rw [e, ho]
    unfold insL
    rw [List.filter_append, List.filter_append]
    have h1 : ¬ x.1 < key := by omega
    simp only [List.filter_cons, List.filter_nil, h1, hk, decide_true, decide_false, if_true]
    simp
  · rw [e, getL_snoc_ne (by omega)]; exact h.was
  · rw [e, getL_snoc_ne (by omega)]; exact h.is
theorem PutSt.before {l : List Row} (hs : Sorted l) {key v : Int} {i : Nat} {out : List Row} {was : Int} {is : Bool} (h : PutSt l key v i false out was is) (hi : i < l.length) (hk : (l.getD i default).1 < key) : PutSt l key v (i + 1) false (out ++ [l.getD i default]) was is := by
  obtain ⟨e, hb⟩ := sorted_take hs hi
  generalize l.getD i default = x at *
  refine ⟨fun _ => ⟨?_, fun y hy => ?_⟩, (fun hd => by cases hd), ?_, ?_, by have := h.len; simp; omega⟩
  · rw [e, (h.no rfl).1, List.filter_append]
    simp only [List.filter_cons, List.filter_nil, hk, decide_true, if_true]
  · rw [e] at hy
    rcases List.mem_append.1 hy with hy | hy
    · exact (h.no rfl).2 y hy
    · obtain rfl := List.mem_singleton.1 hy
      omega
  · rw [e, getL_snoc_ne (by omega)]; exact h.was
  · rw [e, getL_snoc_ne (by omega)]; exact h.is
theorem PutSt.over {l : List Row} {key v : Int} {done : Bool} {out : List Row} {was : Int} {is : Bool} (h : PutSt l key v l.length done out was is) : (if done = true then out else out ++ [(key, v)]) = insL l key v ∧ was = (getL l key).getD 0 ∧ is = (getL l key).isSome := by
  have e : l.take l.length = l := List.take_length
  have h1 := h.was
  have h2 := h.is
  rw [e] at h1 h2
  refine ⟨?_, h1, h2⟩
  cases done with
  | true => rw [if_pos rfl, (h.yes rfl).1, e]
  | false =>
    rw [if_neg (by simp), (h.no rfl).1, e]
    have hle := (h.no rfl).2
    rw [e] at hle
    unfold insL
    rw [filter_none (l := l) (p := fun x => decide (key < x.1)) fun y hy => by have := hle y hy; simp; omega]
section
attribute [local go_sem ↓] append_eq
set_option maxRecDepth 100000 in
set_option maxHeartbeats 4000000 in
theorem dput_any {w : World} {F : Nat → Prop} {lv : Value} {l : List Row} (hd : DocAt w F lv l) (hs : Sorted l) (hl : l.length ≤ 900000) (key v : Int) :
    Calls Try.prog 15 #[lv, .int .i64 key, .int .i64 v] w fun e w' => ∃ lv', e = .returned (.tuple #[lv', .int .i64 ((getL l key).getD 0), .bool (getL l key).isSome]) ∧ OwnS w' w.heap.size 46 2 lv' (insL l key v).length (rowCells (insL l key v)) ∧ Below w.heap.size w w' := by
  obtain ⟨a, cap, rfl, hcell⟩ := hd.val
  have HC := Lib.hid hcell
  have HS := Lib.hid hs
  obtain ⟨n, hnn⟩ : ∃ n, n = l.length := ⟨_, rfl⟩
  have HN := Lib.hid hnn
  obtain ⟨r1, hr1⟩ : ∃ r, r = (getL l key).getD 0 := ⟨_, rfl⟩
  obtain ⟨r2, hr2⟩ : ∃ r, r = (getL l key).isSome := ⟨_, rfl⟩
  have HR := Lib.hid (And.intro hr1 hr2)
  rw [← hr1, ← hr2, ← hnn]
  rw [← hnn] at hl
  clear hcell hs hd hr1 hr2 hnn
  go_enter Try.func15, Try.ntmps15
  go_wp2_with fail
  go_loopw [9, 10, 11, 12, 13] (fun ov wv iv dv nv wr => ∃ (i : Nat) (done is : Bool) (was : Int) (out : List Row) (oa : Option Addr) (oc : Nat), i ≤ n ∧ ov = .slice oa out.length oc ∧ wv = .int .i64 was ∧ iv = .bool is ∧ dv = .bool done ∧ nv = .int .i64 (i : Int) ∧
    Hid (PutSt l key v i done out was is ∧ OwnS wr w.heap.size 46 2 (.slice oa out.length oc) out.length (rowCells out) ∧ Below w.heap.size w wr)) (fun _ _ _ _ nv _ => n - (intOf nv).toNat)
  case atStart => exact ⟨0, false, false, 0, [], none, 0, Nat.zero_le _, rfl, rfl, rfl, rfl, rfl, Lib.hid ⟨PutSt.zero l key v, OwnS.nil _ _ _ _, Below.refl _ _⟩⟩
  case round =>
    obtain ⟨i, done, is, was, out, oa, oc, hi, rfl, rfl, rfl, rfl, rfl, HP⟩ := hrel
    by_cases hin : i < n
    · obtain ⟨b, off, hab, hblt, _, hcx⟩ := HC.out (by rw [← HN.out]; omega)
      subst hab
      have hil : i < l.length := by rw [← HN.out]; exact hin
      obtain ⟨hst, hown, hbel⟩ := HP.out
      have x1 := (hbel.cell (p := ⟨b, off + i * 2, none⟩) (by exact hblt)).trans (hcx i hil).1
      have x2 := (hbel.cell (p := ⟨b, off + i * 2 + 1, none⟩) (by exact hblt)).trans (hcx i hil).2
      obtain ⟨x, hx⟩ : ∃ x, x = l.getD i default := ⟨_, rfl⟩
      rw [← hx] at x1 x2
      have hol : out.length ≤ i + 1 := hst.len
      have z1 : (i : Int) < (n : Int) := by omega
      have z2 : (0 : Int) ≤ (i : Int) := by omega
      by_cases hk : x.1 = key
      · have hn1 := hst.same HS.out hil (by rw [← hx]; exact hk)
        rw [← hx] at hn1
        have HP2 : Hid (PutSt l key v (i + 1) done out x.2 true ∧ OwnS wr w.heap.size 46 2 (.slice oa out.length oc) out.length (rowCells out) ∧ Below w.heap.size w wr) := Lib.hid ⟨hn1, hown, hbel⟩
        rw [hk] at x1
        clear hn1 hst hown hbel hcx hx HP
        go_wp2_with fail
        go_roundw
        case rel => exact ⟨i + 1, done, true, x.2, out, oa, oc, by omega, rfl, rfl, rfl, rfl, by go_num, HP2⟩
        case measure => simp [intOf]; omega
      · have hkb : (x.1 == key) = false := by simpa using hk
        cases done with
        | true =>
          obtain ⟨hn1, hlt⟩ := hst.after HS.out hil
          rw [← hx] at hn1 hlt
          obtain ⟨a1, c1, W1, hr1, ho1, hb1⟩ := push_row hown hbel.size (by omega) x
          have HP2 : Hid (PutSt l key v (i + 1) true (out ++ [x]) was is ∧ OwnS W1 w.heap.size 46 2 (.slice a1 (out ++ [x]).length c1) (out ++ [x]).length (rowCells (out ++ [x])) ∧ Below w.heap.size w W1) := Lib.hid ⟨hn1, by simpa using ho1, hbel.trans hb1⟩
          clear hn1 hst hown hbel hcx hx HP ho1 hb1
          go_wp2_with fail
          go_roundw
          case rel => exact ⟨i + 1, true, is, was, out ++ [x], a1, c1, by omega, by simp, rfl, rfl, rfl, by go_num, HP2⟩
          case measure => simp [intOf]; omega
        | false =>
          by_cases hlt : key < x.1
          · have hn1 := hst.start HS.out hil (by rw [← hx]; exact hlt)
            rw [← hx] at hn1
            obtain ⟨a1, c1, W1, hr1, ho1, hb1⟩ := push_row hown hbel.size (by omega) (key, v)
            have hb2 := hbel.trans hb1
            have x1' := (hb2.cell (p := ⟨b, off + i * 2, none⟩) (by exact hblt)).trans (hcx i hil).1
            have x2' := (hb2.cell (p := ⟨b, off + i * 2 + 1, none⟩) (by exact hblt)).trans (hcx i hil).2
            rw [← hx] at x1' x2'
            have e1 : (out ++ [(key, v)]).length = out.length + 1 := by simp
            obtain ⟨a2, c2, W2, hr2, ho2, hb3⟩ := push_row (v := .slice a1 (out.length + 1) c1) (l := out ++ [(key, v)]) ho1 hb2.size (by omega) x
            rw [e1] at hr2 ho2
            have HP2 : Hid (PutSt l key v (i + 1) true (out ++ [(key, v)] ++ [x]) was is ∧ OwnS W2 w.heap.size 46 2 (.slice a2 (out ++ [(key, v)] ++ [x]).length c2) (out ++ [(key, v)] ++ [x]).length (rowCells (out ++ [(key, v)] ++ [x])) ∧ Below w.heap.size w W2) := Lib.hid ⟨hn1, by simpa using ho2, hb2.trans hb3⟩
            clear hn1 hst hown hbel hcx hx HP ho1 hb1 ho2 hb2 hb3 e1
            go_wp2_with fail
            go_roundw
            case rel => exact ⟨i + 1, true, is, was, out ++ [(key, v)] ++ [x], a2, c2, by omega, by simp, rfl, rfl, rfl, by go_num, HP2⟩
            case measure => simp [intOf]; omega
          · have hn1 := hst.before HS.out hil (by rw [← hx]; omega)
            rw [← hx] at hn1
            obtain ⟨a1, c1, W1, hr1, ho1, hb1⟩ := push_row hown hbel.size (by omega) x
            have HP2 : Hid (PutSt l key v (i + 1) false (out ++ [x]) was is ∧ OwnS W1 w.heap.size 46 2 (.slice a1 (out ++ [x]).length c1) (out ++ [x]).length (rowCells (out ++ [x])) ∧ Below w.heap.size w W1) := Lib.hid ⟨hn1, by simpa using ho1, hbel.trans hb1⟩
            clear hn1 hst hown hbel hcx hx HP ho1 hb1
            go_wp2_with fail
            go_roundw
            case rel => exact ⟨i + 1, false, is, was, out ++ [x], a1, c1, by omega, by simp, rfl, rfl, rfl, by go_num, HP2⟩
            case measure => simp [intOf]; omega
    · obtain rfl : i = n := by omega
      obtain ⟨hst, hown, hbel⟩ := HP.out
      rw [HN.out] at hst
      obtain ⟨hend, hw1, hw2⟩ := hst.over
      have hol : out.length ≤ i + 1 := by have := hst.len; rw [← HN.out] at this; exact this
      rw [← HR.out.1] at hw1
      rw [← HR.out.2] at hw2
      subst hw1 hw2
      cases done with
      | true =>
        rw [if_pos rfl] at hend
        have HE := Lib.hid (And.intro hend (And.intro hown hbel))
        clear hst hown hbel hend HP
        go_wp2_with fail
        go_ret3
        refine ⟨_, rfl, ?_, HE.out.2.2⟩
        rw [← HE.out.1]; exact HE.out.2.1
      | false =>
        rw [if_neg (by simp)] at hend
        obtain ⟨a1, c1, W1, hr1, ho1, hb1⟩ := push_row hown hbel.size (by omega) (key, v)
        have HE := Lib.hid (And.intro hend (And.intro ho1 (hbel.trans hb1)))
        clear hst hown hbel hend HP ho1 hb1
        go_wp2_with fail
        go_ret3
        refine ⟨_, rfl, ?_, HE.out.2.2⟩
        rw [← HE.out.1]; exact HE.out.2.1
end
end Go.Proofs.Ytdgapagpmdfndaa
