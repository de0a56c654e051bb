/- WALKS OF LAYER 1 (glyph): All, Count, Name, the document's. -/
import Derived.Test.YtoflicfghonhcaaKit
import Derived.Test.YtoflicfghonhcaaGlyphB
import Derived.Test.YtoflicfghonhcaaGlyphE
import Derived.Test.YtoflicfghonhcaaLexF
import Derived.WalkKit
import Derived.WalkSpells
import Derived.WalkLawsBesides
import Derived.Laws.CopyOwn
import Derived.Lib.Hide
import Derived.Lib.Strings
namespace Go.Proofs.Ytoflicfghonhcaa
open Go.RowKit
set_option linter.unusedVariables false
theorem infoI32 : (Try.prog.info? 21).map (fun i => (i.zero, i.size, i.bytes)) = some (some (.int .i32 0), 1, 4) := by kernel_rfl
def AllPost (o : Option (List Int)) (w : World) (e : Ending) (w' : World) : Prop := match o with
  | none => e = .returned (.tuple #[.slice none 0 0, .bool false]) ∧ Below w.heap.size w w'
  | some cs => ∃ v, e = .returned (.tuple #[v, .bool true]) ∧ w'.ownsRow w.heap.size 21 1 v cs.length (cs.map (Value.int .i32)) ∧ Below w.heap.size w w'
set_option maxRecDepth 100000 in
set_option maxHeartbeats 2000000 in
theorem rall_any (s : ByteArray) (hs : s.size ≤ 35184372088832) (w : World) :
    Calls Try.prog 46 #[.string s] w (AllPost (allP s.data.toList) w) := by
  obtain ⟨i0, hi, hz0, hz1, hz2⟩ := info_parts infoI32
  go_enter Try.func46, Try.ntmps46
  go_wp2_with fail
  go_loopw [0, 4] (fun v u wr => ∃ (t : ByteArray) (pre : List Int), v = .string t ∧ pre.length + t.size ≤ s.size ∧ allP s.data.toList = (allP t.data.toList).map (pre ++ ·) ∧ wr.ownsRow w.heap.size 21 1 u pre.length (pre.map (Value.int .i32)) ∧ Below w.heap.size w wr) (fun v _ _ => match v with | .string t => t.size | _ => 0)
  case atStart => exact ⟨s, [], rfl, by simp, by cases allP s.data.toList <;> simp, World.ownsRow_nil _ _ _ _, Below.refl _ _⟩
  case round =>
    obtain ⟨t, pre, rfl, hk, hc, hown, hb⟩ := hrel
    have HC := Lib.hid hc
    clear hc
    have htm : t.size ≤ maxLen := by unfold maxLen; omega
    by_cases h0 : 0 < t.size
    · have hne := ne_empty h0
      have hl0 := list_ne h0
      have hle := nextP_le t.data.toList
      have hsz := Lib.size_eq t
      by_cases hn : (nextP t.data.toList).2 = 0
      · have HB : Hid (allP s.data.toList = none) := by rw [HC.out, allP_bad hl0 hn]; exact Lib.hid rfl
        have HN := Lib.hid hn
        clear hl0 hn hle hsz
        go_wp2_with (go_at_call 53; refine (rnext_any t htm _).mono ?_; rintro e w2 ⟨rfl, hb2⟩; rw [HN.out])
        go_ret2
        rw [HB.out]
        exact ⟨rfl, hb.trans (hb2.mono hb.size)⟩
      · obtain ⟨n, hnn⟩ : ∃ n, n = (nextP t.data.toList).2 := ⟨_, rfl⟩
        obtain ⟨c, hcc⟩ : ∃ c, c = (nextP t.data.toList).1 := ⟨_, rfl⟩
        have HS : Hid (allP s.data.toList = (allP (t.data.toList.drop n)).map ((pre ++ [c]) ++ ·)) := by
          rw [HC.out, allP_step hl0 hn, ← hnn, ← hcc]
          show _ = _
          cases allP (t.data.toList.drop n) <;> simp
        rw [← hnn] at hn hle
        have hnz : ((n : Int) == 0) = false := by simp; omega
        have hns : n ≤ t.size := by omega
        have hn1 : 1 ≤ n := by omega
        have HN := Lib.hid hnn
        have HCC := Lib.hid hcc
        clear hl0 hn hle hsz hnn hcc
        go_wp2_with (first | (go_at_call 53; refine (rnext_any t htm _).mono ?_; rintro e w2 ⟨rfl, hb2⟩; rw [← HN.out, ← HCC.out]) | (at_builtin; refine wpList_append_own _ rfl _ _ 81 rfl w.heap.size 21 i0 (.int .i32 0) 1 4 Try.underlying81 hi hz0 hz1 hz2 rfl (by decide) _ _ _ rfl ((ownsRow_below hown hb2).alloc _) ⟨w2.heap.size, 0, none⟩ 1 1 [.int .i32 c] rfl rfl ?c1 ?c2 ?c3 ?c4 ?c5 ?_))
        case c1 => exact cell_one_new _ _ _
        case c2 => intro u hu; simp at hu; subst hu; rfl
        case c3 => unfold maxLen; omega
        case c4 => omega
        case c5 => have := hb.size; have := hb2.size; simp; omega
        intro v' w1 hown' hgrow _
        have hb1 : Below w.heap.size w w1 := ((hb.trans (hb2.mono hb.size)).alloc (by have := hb.size; have := hb2.size; omega) _).grown hgrow (by have := hb.size; have := hb2.size; simp; omega) (fun r hr => own_block_le hown r hr)
        clear hown hgrow
        go_wp2
        go_roundw
        case rel =>
          refine ⟨t.extract n t.size, pre ++ [c], rfl, ?_, ?_, by simpa using hown', hb1⟩
          · rw [Lib.size_eq (t.extract n t.size), drop_ext, List.length_drop, ← Lib.size_eq, List.length_append, List.length_singleton]; omega
          · rw [drop_ext, ← HS.out]
        case measure =>
          show (t.extract n t.size).size < t.size
          rw [Lib.size_eq (t.extract n t.size), drop_ext, List.length_drop, ← Lib.size_eq]; omega
    · have hz : t.data.toList = [] := by
        apply List.eq_nil_of_length_eq_zero
        have := Lib.size_eq t
        omega
      have HE : Hid (allP s.data.toList = some pre) := by rw [HC.out, hz, allP_nil]; simp [Hid]
      have hem : t.toList.isEmpty = true := by rw [Lib.toList_data, hz]; rfl
      clear hz
      go_wp2
      go_ret2
      rw [HE.out]
      exact ⟨_, rfl, hown, hb⟩

set_option maxRecDepth 100000 in
set_option maxHeartbeats 1000000 in
theorem rname_any (s : ByteArray) (hs : s.size ≤ 35184372088832) (w : World) :
    Calls Try.prog 38 #[.string s] w fun e w' => e = .returned (.bool (nameP s.data.toList)) ∧ Below w.heap.size w w' := by
  have hsz := Lib.size_eq s
  cases hall : allP s.data.toList with
  | none =>
    have H : Hid (nameP s.data.toList = false) := by unfold nameP; rw [decide_eq_false (namesFrom_none hall), Bool.and_false]; exact Lib.hid rfl
    have HA := Lib.hid hall
    clear hall
    go_enter Try.func38, Try.ntmps38
    go_wp2_with (go_at_call 46; refine (rall_any s hs _).mono ?_; rw [HA.out]; rintro e w1 ⟨rfl, hb1⟩)
    go_ret
    exact ⟨ret_bool H.out.symm, hb1⟩
  | some cs =>
    by_cases h1 : s.size < 1
    · have H : Hid (nameP s.data.toList = false) := by unfold nameP; rw [decide_eq_false (show ¬ (1 ≤ s.data.toList.length ∧ s.data.toList.length ≤ 60) by omega), Bool.false_and]; exact Lib.hid rfl
      have HA := Lib.hid hall
      clear hall hsz
      go_enter Try.func38, Try.ntmps38
      go_wp2_with (go_at_call 46; refine (rall_any s hs _).mono ?_; rw [HA.out]; rintro e w1 ⟨v, rfl, hown, hb1⟩; obtain ⟨ao, cp, hv⟩ := own_len hown; subst hv)
      go_ret
      exact ⟨ret_bool H.out.symm, hb1⟩
    by_cases h2 : 60 < s.size
    · have H : Hid (nameP s.data.toList = false) := by unfold nameP; rw [decide_eq_false (show ¬ (1 ≤ s.data.toList.length ∧ s.data.toList.length ≤ 60) by omega), Bool.false_and]; exact Lib.hid rfl
      have HA := Lib.hid hall
      clear hall hsz
      go_enter Try.func38, Try.ntmps38
      go_wp2_with (go_at_call 46; refine (rall_any s hs _).mono ?_; rw [HA.out]; rintro e w1 ⟨v, rfl, hown, hb1⟩; obtain ⟨ao, cp, hv⟩ := own_len hown; subst hv)
      go_ret
      exact ⟨ret_bool H.out.symm, hb1⟩
    cases cs with
    | nil => exact absurd hall (allP_ne (list_ne (by omega)))
    | cons c cs =>
      have H : Hid (nameP s.data.toList = decide (startB c = true ∧ (c :: cs).all partB = true)) := by
        unfold nameP
        rw [decide_eq_true (show 1 ≤ s.data.toList.length ∧ s.data.toList.length ≤ 60 by omega), Bool.true_and, decide_eq_decide.2 (namesFrom_zero c cs hall)]
        exact Lib.hid rfl
      have HA := Lib.hid hall
      clear hall hsz
      cases hst : startB c
      · go_enter Try.func38, Try.ntmps38
        go_wp2_with (first | (go_at_call 46; refine (rall_any s hs _).mono ?_; rw [HA.out]; rintro e w1 ⟨v, rfl, hown, hb1⟩; obtain ⟨g, cp, hv, hcell⟩ := own_bytes_at hown (by simp); subst hv; have hc0 : w1.cell? ⟨g, 0, none⟩ = some (.int .i32 c) := hcell 0 (by simp)) | (go_at_call 47; refine (rstart_any _ _).mono ?_; rintro e w2 ⟨rfl, rfl⟩))
        go_ret
        exact ⟨ret_bool (by rw [H.out, hst]; simp), hb1⟩
      · obtain ⟨L, hL⟩ : ∃ L, L = c :: cs := ⟨_, rfl⟩
        have hlen : L.length = cs.length + 1 := by rw [hL]; rfl
        have H2 : Hid (nameP s.data.toList = L.all partB) := by rw [H.out, hst, hL]; generalize (c :: cs).all partB = b; cases b <;> exact Lib.hid rfl
        have HLEN := Lib.hid hlen
        have hcl : cs.length + 1 ≤ 9223372036854775807 := by
          have := allP_len _ s.data.toList (Nat.le_refl _) _ HA.out
          have h3 := Lib.size_eq s
          simp only [List.length_cons] at this
          omega
        have HL := Lib.hid hL
        clear hL hlen H
        go_enter Try.func38, Try.ntmps38
        go_wp2_with (first | (go_at_call 46; refine (rall_any s hs _).mono ?_; rw [HA.out]; rintro e w1 ⟨v, rfl, hown, hb1⟩; obtain ⟨g, cp, hv, hcell⟩ := own_bytes_at hown (by simp); subst hv; have hc0 : w1.cell? ⟨g, 0, none⟩ = some (.int .i32 c) := hcell 0 (by simp); have HCELL := Lib.hid hcell; clear hcell) | (go_at_call 47; refine (rstart_any _ _).mono ?_; rintro e w2 ⟨rfl, rfl⟩))
        go_loop [5] (fun i => ∃ k : Nat, k ≤ cs.length + 1 ∧ i = .int .i64 k ∧ L.all partB = (L.drop k).all partB) (fun i => cs.length + 1 - (intOf i).toNat)
        case atStart => exact ⟨0, by omega, rfl, rfl⟩
        case round =>
          obtain ⟨k, hk, rfl, hall⟩ := hrel
          have HALL := Lib.hid hall
          clear hall hc0
          by_cases hlt : k < cs.length + 1
          · have hlt' : k < L.length := by rw [HLEN.out]; exact hlt
            obtain ⟨d, hd⟩ : ∃ d, d = L.getD k 0 := ⟨_, rfl⟩
            have hc1 : w1.cell? ⟨g, k, none⟩ = some (.int .i32 d) := by
              have := HCELL.out k (by simpa using hlt)
              rw [← HL.out, ← hd] at this
              simpa using this
            have HD : Hid ((L.drop k).all partB = (partB d && (L.drop (k + 1)).all partB)) := by
              rw [List.drop_eq_getElem_cons hlt', List.all_cons, hd, List.getD_eq_getElem?_getD, List.getElem?_eq_getElem hlt']
              exact Lib.hid rfl
            clear hlt' hd
            go_wp2_with (go_at_call 48; refine (rpart_any _ _).mono ?_; rintro e w2 ⟨rfl, rfl⟩)
            · have ht : (!partB d) = true := by assumption
              go_ret
              refine ⟨ret_bool ?_, hb1⟩
              have : partB d = false := by simpa using ht
              rw [H2.out, HALL.out, HD.out, this]; rfl
            · have ht : (!partB d) = false := by assumption
              go_round
              case rel =>
                refine ⟨k + 1, by omega, by go_num, ?_⟩
                have : partB d = true := by simpa using ht
                rw [HALL.out, HD.out, this]; rfl
              case measure => simp [intOf]; omega
          · obtain rfl : k = cs.length + 1 := by omega
            go_wp2
            go_ret
            refine ⟨ret_bool ?_, hb1⟩
            rw [H2.out, HALL.out, List.drop_eq_nil_of_le (by rw [HLEN.out]; omega)]; rfl
end Go.Proofs.Ytoflicfghonhcaa
