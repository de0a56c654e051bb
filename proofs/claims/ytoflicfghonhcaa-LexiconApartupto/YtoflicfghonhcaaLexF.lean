/- WALKS OF LAYER 1 (glyph): each, Count, Name, the program's. -/
import Derived.Test.YtoflicfghonhcaaGlyphD
import Derived.Test.YtoflicfghonhcaaGlyphPlain4
import Derived.WalkKit
import Derived.WalkSpells
import Derived.WalkLawsBesides
import Derived.Laws.CopyOwn
import Derived.Lib.Hide
import Derived.Lib.Strings
import Derived.Lib.IndexBytes
namespace Go.Proofs.Ytoflicfghonhcaa
open Go.RowKit
set_option linter.unusedVariables false
theorem drop_ext (t : ByteArray) (n : Nat) : (t.extract n t.size).data.toList = t.data.toList.drop n := by
  rw [Lib.extract_data, List.take_of_length_le]
  rw [Lib.size_eq, List.length_drop]
  omega
theorem toList_ne {t : ByteArray} (h : ¬ t.toList.isEmpty = true) : t.data.toList ≠ [] := by
  rw [Lib.toList_data] at h
  intro e
  rw [e] at h
  exact h rfl
theorem toList_nil {t : ByteArray} (h : t.toList.isEmpty = true) : t.data.toList = [] := by
  rw [Lib.toList_data] at h
  simpa using h

theorem heap_cell_new (w : World) (v : Value) (t : TypeId) : (w.alloc (.cells #[v] t)).cell? ⟨w.heap.size, 0, none⟩ = some v := by
  rw [World.cell?_alloc_mark]; rfl
set_option maxRecDepth 100000 in
set_option maxHeartbeats 1000000 in
theorem each_none (s : ByteArray) (hs : s.size ≤ maxLen) (w : World) :
    Calls Try.prog 39 #[.string s, .slice none 0 0] w fun e w' => e = .returned (.int .i64 (countP s.data.toList)) ∧ Below w.heap.size w w' := by
  unfold maxLen at hs
  go_enter Try.func39, Try.ntmps39
  go_wp2_with fail
  go_loopw [0, 5] (fun v m wr => ∃ (t : ByteArray) (k : Nat), v = .string t ∧ m = .int .i64 k ∧ k + t.size ≤ s.size ∧ countFrom k t.data.toList = countP s.data.toList ∧ Below w.heap.size w wr) (fun v _ _ => match v with | .string t => t.size | _ => 0)
  case atStart => exact ⟨s, 0, rfl, rfl, by omega, rfl, Below.refl _ _⟩
  case round =>
    obtain ⟨t, k, rfl, rfl, hk, hc, hb⟩ := hrel
    have HC := Lib.hid hc
    clear hc
    have htm : t.size ≤ maxLen := by unfold maxLen; omega
    by_cases h0 : 0 < t.size
    · have hne := ne_empty h0
      have hl0 := list_ne h0
      have HL0 := Lib.hid hl0
      have hle := nextP_le t.data.toList
      have hsz := Lib.size_eq t
      by_cases hn : (nextP t.data.toList).2 = 0
      · have HB : Hid (countFrom k t.data.toList = -1) := countFrom_bad k hl0 hn
        have HN := Lib.hid hn
        clear hl0 hn hle hsz
        go_wp2_with (go_at_call 49; refine (next_any t htm _).mono ?_; rintro e w2 ⟨rfl, hb2⟩; rw [HN.out])
        go_ret
        exact ⟨ret_int (by rw [← HC.out, HB.out]), hb.trans (hb2.mono hb.size)⟩
      · obtain ⟨n, hnn⟩ : ∃ n, n = (nextP t.data.toList).2 := ⟨_, rfl⟩
        have HS : Hid (countFrom k t.data.toList = countFrom (k + 1) (t.data.toList.drop n)) := by rw [hnn]; exact countFrom_step k hl0 hn
        rw [← hnn] at hn hle
        have hnz : ((n : Int) == 0) = false := by simp; omega
        have hns : n ≤ t.size := by omega
        have hn1 : 1 ≤ n := by omega
        have HN := Lib.hid hnn
        clear hl0 hn hle hsz hnn
        go_wp2_with (go_at_call 49; refine (next_any t htm _).mono ?_; rintro e w2 ⟨rfl, hb2⟩; rw [← HN.out])
        go_loop [21] (fun i => i = .int .i64 0) (fun _ => 0)
        case atStart => rfl
        case round =>
          subst hrel
          go_wp2
          go_roundw
          case rel =>
            refine ⟨t.extract n t.size, k + 1, rfl, by go_num, ?_, ?_, hb.trans (hb2.mono hb.size)⟩
            · rw [Lib.size_eq (t.extract n t.size), drop_ext, List.length_drop, ← Lib.size_eq]; omega
            · rw [drop_ext, ← HS.out, HC.out]
          case measure =>
            show (t.extract n t.size).size < t.size
            rw [Lib.size_eq (t.extract n t.size), drop_ext, List.length_drop, ← Lib.size_eq]; omega
    · have hz : t.data.toList = [] := by
        apply List.eq_nil_of_length_eq_zero
        have := Lib.size_eq t
        omega
      have HE : Hid (countP s.data.toList = k) := by rw [← HC.out, hz, countFrom_nil]; rfl
      have hem : t.toList.isEmpty = true := by rw [Lib.toList_data, hz]; rfl
      clear hz
      go_wp2
      go_ret
      exact ⟨ret_int HE.out.symm, hb⟩

set_option maxRecDepth 100000 in
set_option maxHeartbeats 1000000 in
/-- May a name have it: the closure in Name. -/
theorem namef_any (c : Int) (first : Bool) (w : World) :
    Calls Try.prog 40 #[.int .i32 c, .bool first] w fun e w' => e = .returned (.bool (okB c first)) ∧ Below w.heap.size w w' := by
  cases hp : partB c
  · go_enter Try.func40, Try.ntmps40
    go_wp2_with (go_at_call 41; refine (part_any _ _).mono ?_; rintro e w1 ⟨rfl, hb1⟩)
    go_ret
    exact ⟨ret_bool (by simp [okB, hp]), hb1⟩
  · cases first
    · go_enter Try.func40, Try.ntmps40
      go_wp2_with (go_at_call 41; refine (part_any _ _).mono ?_; rintro e w1 ⟨rfl, hb1⟩)
      go_ret
      exact ⟨ret_bool (by simp [okB, hp]), hb1⟩
    · have HP := Lib.hid hp
      go_enter Try.func40, Try.ntmps40
      go_wp2_with (first | (go_at_call 41; refine (part_any _ _).mono ?_; rintro e w1 ⟨rfl, hb1⟩) | (go_at_call 42; refine (start_any _ _).mono ?_; rintro e w2 ⟨rfl, hb2⟩))
      go_ret
      exact ⟨ret_bool (by simp [okB, HP.out]), hb1.trans (hb2.mono hb1.size)⟩

set_option maxRecDepth 100000 in
set_option maxHeartbeats 2000000 in
theorem each_names (s : ByteArray) (hs : s.size ≤ maxLen) (f : Nat) (w : World) (hf : f < w.heap.size) (hcell : w.cell? ⟨f, 0, none⟩ = some (.func (.func 40) #[] #[])) :
    Calls Try.prog 39 #[.string s, .slice (some ⟨f, 0, none⟩) 1 1] w fun e w' => e = .returned (.int .i64 (namesFrom 0 s.data.toList)) ∧ Below w.heap.size w w' := by
  unfold maxLen at hs
  go_enter Try.func39, Try.ntmps39
  go_wp2_with fail
  go_loopw [0, 5] (fun v m wr => ∃ (t : ByteArray) (k : Nat), v = .string t ∧ m = .int .i64 k ∧ k + t.size ≤ s.size ∧ namesFrom k t.data.toList = namesFrom 0 s.data.toList ∧ Below w.heap.size w wr) (fun v _ _ => match v with | .string t => t.size | _ => 0)
  case atStart => exact ⟨s, 0, rfl, rfl, by omega, rfl, Below.refl _ _⟩
  case round =>
    obtain ⟨t, k, rfl, rfl, hk, hc, hb⟩ := hrel
    have HC := Lib.hid hc
    clear hc
    have htm : t.size ≤ maxLen := by unfold maxLen; omega
    by_cases h0 : 0 < t.size
    · have hne := ne_empty h0
      have hl0 := list_ne h0
      have hle := nextP_le t.data.toList
      have hsz := Lib.size_eq t
      by_cases hn : (nextP t.data.toList).2 = 0
      · have HB : Hid (namesFrom k t.data.toList = -1) := namesFrom_bad k hl0 hn
        have HN := Lib.hid hn
        clear hl0 hn hle hsz hcell
        go_wp2_with (go_at_call 49; refine (next_any t htm _).mono ?_; rintro e w2 ⟨rfl, hb2⟩; rw [HN.out])
        go_ret
        exact ⟨ret_int (by rw [← HC.out, HB.out]), hb.trans (hb2.mono hb.size)⟩
      · obtain ⟨n, hnn⟩ : ∃ n, n = (nextP t.data.toList).2 := ⟨_, rfl⟩
        obtain ⟨c, hcc⟩ : ∃ c, c = (nextP t.data.toList).1 := ⟨_, rfl⟩
        have HS : Hid (okB c (k == 0) = true → namesFrom k t.data.toList = namesFrom (k + 1) (t.data.toList.drop n)) := by
          intro ho; rw [hcc] at ho; rw [hnn]; exact namesFrom_step k hl0 hn ho
        have HX : Hid (okB c (k == 0) = false → namesFrom k t.data.toList = -1) := by
          intro ho; rw [hcc] at ho; exact namesFrom_no k hl0 hn ho
        rw [← hnn] at hn hle
        have hnz : ((n : Int) == 0) = false := by simp; omega
        have hns : n ≤ t.size := by omega
        have hn1 : 1 ≤ n := by omega
        have HN := Lib.hid hnn
        have HCC := Lib.hid hcc
        have HCELL := Lib.hid hcell
        have hkk : ((k : Int) == 0) = (k == 0) := by rw [Bool.eq_iff_iff]; simp
        have HK := Lib.hid hkk
        clear hl0 hn hle hsz hnn hcc hcell hkk
        obtain ⟨fst, hfst⟩ : ∃ b : Bool, b = (k == 0) := ⟨_, rfl⟩
        rw [← hfst] at HS HX HK
        clear hfst
        go_wp2_with (go_at_call 49; refine (next_any t htm _).mono ?_; rintro e w2 ⟨rfl, hb2⟩; rw [← HN.out, ← HCC.out])
        obtain ⟨wo, rfl⟩ : ∃ wo : World, wo = wr := ⟨_, rfl⟩
        go_loopw [21] (fun i wx => ((i = .int .i64 0) ∨ (i = .int .i64 1 ∧ okB c fst = true)) ∧ Below w.heap.size w wx) (fun i _ => 1 - (intOf i).toNat)
        case atStart => exact ⟨.inl rfl, hb.trans (hb2.mono hb.size)⟩
        case round =>
          obtain ⟨hi, hbx⟩ := hrel
          rcases hi with rfl | ⟨rfl, hok⟩
          · have hc2 : wr.cell? ⟨f, 0, none⟩ = some (.func (.func 40) #[] #[]) := by rw [hbx.cell (by exact hf)]; exact HCELL.out
            go_wp2_with (go_at_call 40; refine (namef_any _ _ _).mono ?_; rintro e w3 ⟨rfl, hb3⟩)
            · have ho : (!okB c ((k : Int) == 0)) = true := by assumption
              rw [HK.out] at ho
              go_ret
              exact ⟨ret_int (by rw [← HC.out, HX.out (by simpa using ho)]), hbx.trans (hb3.mono hbx.size)⟩
            · have ho : (!okB c ((k : Int) == 0)) = false := by assumption
              rw [HK.out] at ho
              go_roundw
              case rel => exact ⟨.inr ⟨rfl, by simpa using ho⟩, hbx.trans (hb3.mono hbx.size)⟩
              case measure => simp [intOf]
          · have HOK := Lib.hid hok
            clear hok
            go_wp2
            go_roundw
            case rel =>
              refine ⟨t.extract n t.size, k + 1, rfl, by go_num, ?_, ?_, hbx⟩
              · rw [Lib.size_eq (t.extract n t.size), drop_ext, List.length_drop, ← Lib.size_eq]; omega
              · rw [drop_ext, ← HS.out HOK.out, HC.out]
            case measure =>
              show (t.extract n t.size).size < t.size
              rw [Lib.size_eq (t.extract n t.size), drop_ext, List.length_drop, ← Lib.size_eq]; omega
    · have hz : t.data.toList = [] := by
        apply List.eq_nil_of_length_eq_zero
        have := Lib.size_eq t
        omega
      have HE : Hid (namesFrom 0 s.data.toList = k) := by rw [← HC.out, hz, namesFrom_nil]; rfl
      have hem : t.toList.isEmpty = true := by rw [Lib.toList_data, hz]; rfl
      clear hz hcell
      go_wp2
      go_ret
      exact ⟨ret_int HE.out.symm, hb⟩

set_option maxRecDepth 100000 in
set_option maxHeartbeats 400000 in
theorem name_any (s : ByteArray) (hs : s.size ≤ maxLen) (w : World) :
    Calls Try.prog 29 #[.string s] w fun e w' => e = .returned (.bool (nameP s.data.toList)) ∧ Below w.heap.size w w' := by
  have hsz := Lib.size_eq s
  by_cases h0 : 0 < s.size
  · have hne := ne_empty h0
    by_cases h1 : s.size ≤ 60
    · have HN : Hid (nameP s.data.toList = decide (0 < namesFrom 0 s.data.toList)) := by
        unfold nameP
        rw [decide_eq_true (show 1 ≤ s.data.toList.length ∧ s.data.toList.length ≤ 60 by omega), Bool.true_and]
        exact Lib.hid rfl
      clear hsz
      go_enter Try.func29, Try.ntmps29
      go_wp2_with (go_at_call 39; refine (each_names s hs _ _ (by simp) ?_).mono ?_; (exact heap_cell_new _ _ _); rintro e w1 ⟨rfl, hb1⟩)
      go_ret
      exact ⟨ret_bool HN.out.symm, ((Below.refl _ _).alloc (Nat.le_refl _) _).trans (hb1.mono (by simp))⟩
    · have HN : Hid (nameP s.data.toList = false) := by
        unfold nameP
        rw [decide_eq_false (show ¬ (1 ≤ s.data.toList.length ∧ s.data.toList.length ≤ 60) by omega), Bool.false_and]
        exact Lib.hid rfl
      clear hsz
      go_enter Try.func29, Try.ntmps29
      go_wp2_with fail
      go_ret
      exact ⟨ret_bool HN.out.symm, Below.refl _ _⟩
  · have HN : Hid (nameP s.data.toList = false) := by
      unfold nameP
      rw [decide_eq_false (show ¬ (1 ≤ s.data.toList.length ∧ s.data.toList.length ≤ 60) by omega), Bool.false_and]
      exact Lib.hid rfl
    have hem : s.toList.isEmpty = true := by
      have : s.data.toList = [] := List.eq_nil_of_length_eq_zero (by omega)
      rw [Lib.toList_data, this]; rfl
    clear hsz
    go_enter Try.func29, Try.ntmps29
    go_wp2_with fail
    go_ret
    exact ⟨ret_bool HN.out.symm, Below.refl _ _⟩
end Go.Proofs.Ytoflicfghonhcaa
