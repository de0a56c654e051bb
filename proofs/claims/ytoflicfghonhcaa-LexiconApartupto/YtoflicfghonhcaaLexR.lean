/- WALKS OF LAYER 15 (lexicon), the document's side: byName, byNumber, used. -/
import Derived.Test.YtoflicfghonhcaaLexB
import Derived.Test.YtoflicfghonhcaaKit2
import Derived.Deep.CutRange
namespace Go.Proofs.Ytoflicfghonhcaa
open Go.RowKit Go.WideMaps Go.Maps
set_option linter.unusedVariables false
/-- A word of the document: its name, its number, its uses. -/
abbrev DW := ByteArray × Nat × Nat
def docCells (l : List DW) : List Value := l.flatMap (fun x => [.string x.1, .int .i64 (x.2.1 : Int), .int .i64 (x.2.2 : Int)])
theorem docCells_len (o : List DW) : (docCells o).length = o.length * 3 := by
  induction o with
  | nil => rfl
  | cons a r ih => simp only [docCells, List.flatMap_cons, List.length_append, List.length_cons, List.length_nil] at ih ⊢; omega
theorem docCells_append (o p : List DW) : docCells (o ++ p) = docCells o ++ docCells p := by simp [docCells]
theorem docCells_at (o : List DW) (k : Nat) (h : k < o.length) : (docCells o)[k * 3]? = some (.string (o.getD k default).1) ∧ (docCells o)[k * 3 + 1]? = some (.int .i64 ((o.getD k default).2.1 : Nat)) ∧ (docCells o)[k * 3 + 2]? = some (.int .i64 ((o.getD k default).2.2 : Nat)) := by
  induction o generalizing k with
  | nil => simp at h
  | cons a r ih =>
    have e2 : docCells (a :: r) = .string a.1 :: .int .i64 (a.2.1 : Int) :: .int .i64 (a.2.2 : Int) :: docCells r := rfl
    cases k with
    | zero => rw [e2]; exact ⟨rfl, rfl, rfl⟩
    | succ k =>
      have e : (k + 1) * 3 = k * 3 + 1 + 1 + 1 := by omega
      have := ih k (by simpa using h)
      rw [e2, e]
      simpa using this
def DocAt (w : World) (B : Nat) (v : Value) (l : List DW) : Prop := OwnS w B 70 3 v l.length (docCells l)
theorem DocAt.below {w w' : World} {B : Nat} {v : Value} {l : List DW} (h : DocAt w B v l) (hb : Below w.heap.size w w') : DocAt w' B v l := OwnS.below h hb
theorem DocAt.cells {w : World} {B g cap : Nat} {l : List DW} (h : DocAt w B (.slice (some ⟨g, 0, none⟩) l.length cap) l) (i : Nat) (hi : i < l.length) :
    w.cell? ⟨g, i * 3, none⟩ = some (.string (l.getD i default).1) ∧ w.cell? ⟨g, i * 3 + 1, none⟩ = some (.int .i64 ((l.getD i default).2.1 : Nat)) ∧ w.cell? ⟨g, i * 3 + 2, none⟩ = some (.int .i64 ((l.getD i default).2.2 : Nat)) := by
  obtain ⟨e1, e2, e3⟩ := docCells_at l i hi
  have c1 := OwnS.cellAt h (i * 3) (by omega)
  have c2 := OwnS.cellAt h (i * 3 + 1) (by omega)
  have c3 := OwnS.cellAt h (i * 3 + 2) (by omega)
  exact ⟨c1.trans e1, c2.trans e2, c3.trans e3⟩
theorem str_eq (u s : ByteArray) : (u.toList == s.toList) = decide (u = s) := by
  rw [Lib.toList_data, Lib.toList_data]
  by_cases h : u = s
  · subst h; simp
  · rw [decide_eq_false h]
    have : u.data.toList ≠ s.data.toList := fun e => h (by
      obtain ⟨⟨a⟩⟩ := u
      obtain ⟨⟨b⟩⟩ := s
      simp only at e
      rw [e])
    simpa using this
def placeFrom (p : DW → Bool) (l : List DW) : Nat → Nat → Int
  | 0, _ => -1
  | m + 1, i => if p (l.getD i default) = true then (i : Int) else placeFrom p l m (i + 1)
def placeD (p : DW → Bool) (l : List DW) : Int := placeFrom p l l.length 0
set_option maxRecDepth 100000 in
theorem byname_any (B : Nat) (v : Value) (l : List DW) (w : World) (h : DocAt w B v l) (hw : l.length ≤ 1000000) (s : ByteArray) :
    Calls Try.prog 32 #[v, .string s] w fun e w' => e = .returned (.int .i64 (placeD (fun x => decide (x.1 = s)) l)) ∧ w' = w := by
  obtain ⟨k, hk⟩ : ∃ k, k = l.length := ⟨_, rfl⟩
  have ho := h
  unfold DocAt at ho
  rw [← hk] at ho hw
  obtain ⟨a, c, rfl⟩ := ho.len
  have hF : Hid (placeD (fun x => decide (x.1 = s)) l = placeFrom (fun x => decide (x.1 = s)) l k 0) := by rw [hk]; exact Lib.hid rfl
  have HK := Lib.hid hk
  have HH := Lib.hid h
  clear h hk
  generalize placeD (fun x => decide (x.1 = s)) l = F at *
  go_enter Try.func32, Try.ntmps32
  go_wp2_with fail
  go_loopw [5] (fun i wr => ∃ n : Nat, n ≤ k ∧ i = .int .i64 (n : Int) ∧ Hid (F = placeFrom (fun x => decide (x.1 = s)) l (k - n) n) ∧ wr = w) (fun i _ => k - (intOf i).toNat)
  case atStart => exact ⟨0, by omega, rfl, hF, rfl⟩
  case round =>
    obtain ⟨n, hn, rfl, HF, rfl⟩ := hrel
    by_cases hlt : n < k
    · obtain ⟨g, cp, hv, _, hg, _, _⟩ := ho.shape (by omega)
      cases hv
      have hd := HH.out
      rw [HK.out] at hd
      obtain ⟨d1, _, _⟩ := hd.cells n (by rw [← HK.out]; exact hlt)
      have hst : Hid (F = (if decide ((l.getD n default).1 = s) = true then (n : Int) else placeFrom (fun x => decide (x.1 = s)) l (k - (n + 1)) (n + 1))) := by
        rw [HF.out, show k - n = (k - (n + 1)) + 1 by omega]; exact Lib.hid rfl
      clear hd
      generalize (l.getD n default).1 = u at *
      by_cases hu : u = s
      · subst hu
        have hE : Hid (F = (n : Int)) := by rw [hst.out, if_pos (by simp)]; exact Lib.hid rfl
        go_wp2_with fail
        go_ret
        rw [hE.out]
        exact ⟨rfl, rfl⟩
      · have hu' : decide (u = s) = false := by simpa using hu
        have hu2 : (u.toList == s.toList) = false := by rw [str_eq, hu']
        have hE : Hid (F = placeFrom (fun x => decide (x.1 = s)) l (k - (n + 1)) (n + 1)) := by rw [hst.out, hu', if_neg (by simp)]; exact Lib.hid rfl
        go_wp2_with fail
        go_roundw
        case rel => exact ⟨n + 1, by omega, by go_num, hE, trivial⟩
        case measure => simp [intOf]; omega
    · obtain rfl : n = k := by omega
      have hE : Hid (F = -1) := by rw [HF.out, Nat.sub_self]; exact Lib.hid rfl
      go_wp2_with fail
      go_ret
      rw [hE.out]
      exact ⟨rfl, rfl⟩
set_option maxRecDepth 100000 in
theorem bynumber_any (B : Nat) (v : Value) (l : List DW) (w : World) (h : DocAt w B v l) (hw : l.length ≤ 1000000) (q : Int) :
    Calls Try.prog 34 #[v, .int .i64 q] w fun e w' => e = .returned (.int .i64 (placeD (fun x => decide ((x.2.1 : Int) = q)) l)) ∧ w' = w := by
  obtain ⟨k, hk⟩ : ∃ k, k = l.length := ⟨_, rfl⟩
  have ho := h
  unfold DocAt at ho
  rw [← hk] at ho hw
  obtain ⟨a, c, rfl⟩ := ho.len
  have hF : Hid (placeD (fun x => decide ((x.2.1 : Int) = q)) l = placeFrom (fun x => decide ((x.2.1 : Int) = q)) l k 0) := by rw [hk]; exact Lib.hid rfl
  have HK := Lib.hid hk
  have HH := Lib.hid h
  clear h hk
  generalize placeD (fun x => decide ((x.2.1 : Int) = q)) l = F at *
  go_enter Try.func34, Try.ntmps34
  go_wp2_with fail
  go_loopw [5] (fun i wr => ∃ n : Nat, n ≤ k ∧ i = .int .i64 (n : Int) ∧ Hid (F = placeFrom (fun x => decide ((x.2.1 : Int) = q)) l (k - n) n) ∧ wr = w) (fun i _ => k - (intOf i).toNat)
  case atStart => exact ⟨0, by omega, rfl, hF, rfl⟩
  case round =>
    obtain ⟨n, hn, rfl, HF, rfl⟩ := hrel
    by_cases hlt : n < k
    · obtain ⟨g, cp, hv, _, hg, _, _⟩ := ho.shape (by omega)
      cases hv
      have hd := HH.out
      rw [HK.out] at hd
      obtain ⟨_, d1, _⟩ := hd.cells n (by rw [← HK.out]; exact hlt)
      have hst : Hid (F = (if decide (((l.getD n default).2.1 : Int) = q) = true then (n : Int) else placeFrom (fun x => decide ((x.2.1 : Int) = q)) l (k - (n + 1)) (n + 1))) := by
        rw [HF.out, show k - n = (k - (n + 1)) + 1 by omega]; exact Lib.hid rfl
      clear hd
      generalize (l.getD n default).2.1 = u at *
      by_cases hu : (u : Int) = q
      · subst hu
        have hE : Hid (F = (n : Int)) := by rw [hst.out, if_pos (by simp)]; exact Lib.hid rfl
        go_wp2_with fail
        go_ret
        rw [hE.out]
        exact ⟨rfl, rfl⟩
      · have hu' : decide ((u : Int) = q) = false := by simpa using hu
        have hu2 : ((u : Int) == q) = false := by simpa using hu
        have hE : Hid (F = placeFrom (fun x => decide ((x.2.1 : Int) = q)) l (k - (n + 1)) (n + 1)) := by rw [hst.out, hu', if_neg (by simp)]; exact Lib.hid rfl
        go_wp2_with fail
        go_roundw
        case rel => exact ⟨n + 1, by omega, by go_num, hE, trivial⟩
        case measure => simp [intOf]; omega
    · obtain rfl : n = k := by omega
      have hE : Hid (F = -1) := by rw [HF.out, Nat.sub_self]; exact Lib.hid rfl
      go_wp2_with fail
      go_ret
      rw [hE.out]
      exact ⟨rfl, rfl⟩
/-- A word, one of its uses more or less; none, if it is used no more. -/
def usedStep (k more : Int) (i : Nat) (x : DW) : Int := if (i : Int) = k then (x.2.2 : Int) + more else (x.2.2 : Int)
def usedFrom (l : List DW) (k more : Int) : Nat → Nat → List DW → List DW
  | 0, _, out => out
  | m + 1, i, out => if 0 < usedStep k more i (l.getD i default) then usedFrom l k more m (i + 1) (out ++ [((l.getD i default).1, (l.getD i default).2.1, (usedStep k more i (l.getD i default)).toNat)]) else usedFrom l k more m (i + 1) out
def usedD (l : List DW) (k more : Int) : List DW := usedFrom l k more l.length 0 []
theorem infoDW : (Try.prog.info? 70).map (fun i => (i.zero, i.size, i.bytes)) = some (some (.agg #[.string ByteArray.empty, .int .i64 0, .int .i64 0]), 3, 32) := by kernel_rfl
theorem three_new (w : World) (x y z : Value) (e : TypeId) (j : Nat) (u : Value) (h : [x, y, z][j]? = some u) : (w.alloc (.cells #[x, y, z] e (0, 0))).cell? ((⟨w.heap.size, 0, none⟩ : Addr).add j) = some u := by
  match j, h with
  | 0, h => simpa [go_sem] using h
  | 1, h => simpa [go_sem] using h
  | 2, h => simpa [go_sem] using h
theorem docPush {w : World} {B : Nat} {v : Value} {out : List DW} {s : ByteArray} {n : Nat} {z : Int} (hz : 0 ≤ z) (h : OwnS w B 70 3 v (out.length + 1) (docCells out ++ [.string s, .int .i64 (n : Int), .int .i64 z])) : DocAt w B v (out ++ [(s, n, z.toNat)]) := by
  unfold DocAt
  rw [docCells_append, List.length_append]
  have e : docCells [(s, n, z.toNat)] = [.string s, .int .i64 (n : Int), .int .i64 z] := by
    show [Value.string s, .int .i64 (n : Int), .int .i64 ((z.toNat : Nat) : Int)] = _
    rw [Int.toNat_of_nonneg hz]
  rw [e]
  exact h
set_option maxRecDepth 100000 in
set_option maxHeartbeats 1000000 in
theorem used_any (B : Nat) (v : Value) (l : List DW) (w : World) (h : DocAt w B v l) (hw : l.length ≤ 100000) (hu : ∀ i, i < l.length → (l.getD i default).2.2 ≤ 100000) (kk more : Int) (hm : -1 ≤ more ∧ more ≤ 1) :
    Calls Try.prog 52 #[v, .int .i64 kk, .int .i64 more] w fun e w' => ∃ v', e = .returned v' ∧ DocAt w' w.heap.size v' (usedD l kk more) ∧ Below w.heap.size w w' := by
  obtain ⟨k0, hk1, hk2, hk3, hk4⟩ := info_parts infoDW
  obtain ⟨k, hk⟩ : ∃ k, k = l.length := ⟨_, rfl⟩
  have ho := h
  unfold DocAt at ho
  rw [← hk] at ho hw hu
  obtain ⟨a, c, rfl⟩ := ho.len
  have hF : Hid (usedD l kk more = usedFrom l kk more k 0 []) := by rw [hk]; exact Lib.hid rfl
  have HK := Lib.hid hk
  have HH := Lib.hid h
  have HU := Lib.hid hu
  clear h hk hu
  obtain ⟨F, hFF⟩ : ∃ F, F = usedD l kk more := ⟨_, rfl⟩
  rw [← hFF] at hF
  have HE := Lib.hid hFF
  clear hFF
  go_enter Try.func52, Try.ntmps52
  go_wp2_with fail
  go_loopw [7, 8] (fun o i wr => ∃ (n : Nat) (out : List DW), n ≤ k ∧ out.length ≤ n ∧ i = .int .i64 (n : Int) ∧ Hid (DocAt wr w.heap.size o out) ∧ Hid (F = usedFrom l kk more (k - n) n out) ∧ Below w.heap.size w wr) (fun _ i _ => k - (intOf i).toNat)
  case atStart => exact ⟨0, [], by omega, Nat.le_refl _, rfl, Lib.hid (OwnS.nil _ _ _ _), hF, Below.refl _ _⟩
  case round =>
    obtain ⟨n, out, hn, hol, rfl, HO, HF, hb⟩ := hrel
    obtain ⟨va, vc, rfl⟩ := HO.out.len
    have hoo := HO.out
    unfold DocAt at hoo
    by_cases hlt : n < k
    · obtain ⟨g, cp, hv, _, hg, _, _⟩ := ho.shape (by omega)
      cases hv
      have hd := HH.out.below hb
      rw [HK.out] at hd
      obtain ⟨d1, d2, d3⟩ := hd.cells n (by rw [← HK.out]; exact hlt)
      have hst : Hid (F = (if 0 < usedStep kk more n (l.getD n default) then usedFrom l kk more (k - (n + 1)) (n + 1) (out ++ [((l.getD n default).1, (l.getD n default).2.1, (usedStep kk more n (l.getD n default)).toNat)]) else usedFrom l kk more (k - (n + 1)) (n + 1) out)) := by
        rw [HF.out, show k - n = (k - (n + 1)) + 1 by omega]; exact Lib.hid rfl
      have hub := HU.out n hlt
      have HSP : Hid (usedStep kk more n (l.getD n default) = if (n : Int) = kk then ((l.getD n default).2.2 : Int) + more else ((l.getD n default).2.2 : Int)) := Lib.hid rfl
      clear hd
      generalize usedStep kk more n (l.getD n default) = z at *
      generalize l.getD n default = x at *
      by_cases hk : kk = (n : Int)
      · have hz : (x.2.2 : Int) + more = z := by rw [HSP.out, if_pos hk.symm]
        have hkb : ((n : Int) == kk) = true := by simpa using hk.symm
        clear hk
        by_cases h0 : 0 < z
        · have h1 : ¬ z ≤ 0 := by omega
          go_wp2_with (at_builtin; refine wpList_append_ownS _ rfl _ _ 32 rfl w.heap.size 70 k0 (.agg #[.string ByteArray.empty, .int .i64 0, .int .i64 0]) 3 32 Try.underlying32 hk1 hk2 hk3 hk4 rfl (by decide) _ _ _ rfl ((hoo.alloc _).alloc _) ⟨wr.heap.size + 1, 0, none⟩ 1 1 [.string x.1, .int .i64 (x.2.1 : Int), .int .i64 z] rfl rfl ?c1 ?c2 ?c3 ?c4 ?c5 ?_)
          case c2 => first | exact ⟨rfl, rfl, rfl⟩ | (intro u hu; simp at hu; rcases hu with rfl | rfl | rfl <;> rfl)
          case c3 => unfold maxLen; omega
          case c4 => omega
          case c5 => first | omega | (have := hb.size; simp; omega)
          intro v1 wa hown1 hgrow1
          have HO1 := Lib.hid (docPush (by omega) hown1)
          have hsz := hb.size
          have hb1 := below_grown ((hb.alloc hsz _).alloc (by simp; omega) _) ((hoo.alloc _).alloc _) hgrow1 (by simp; omega) (Nat.le_refl _)
          have hE : Hid (F = usedFrom l kk more (k - (n + 1)) (n + 1) (out ++ [(x.1, x.2.1, (z).toNat)])) := by rw [hst.out, if_pos (by omega)]; exact Lib.hid rfl
          clear hown1 hgrow1 hoo HO
          go_wp2_with fail
          go_roundw
          case rel => exact ⟨n + 1, _, by omega, by simp; omega, by go_num, HO1, hE, hb1⟩
          case measure => simp [intOf]; omega
        · have h1 : z ≤ 0 := by omega
          have hE : Hid (F = usedFrom l kk more (k - (n + 1)) (n + 1) out) := by rw [hst.out, if_neg (by omega)]; exact Lib.hid rfl
          have hsz := hb.size
          go_wp2_with fail
          go_roundw
          case rel => exact ⟨n + 1, out, by omega, by omega, by go_num, Lib.hid (HO.out.below ((Below.refl _ _).alloc (Nat.le_refl _) _)), hE, hb.alloc hsz _⟩
          case measure => simp [intOf]; omega
      · have hz : (x.2.2 : Int) = z := by rw [HSP.out, if_neg (fun e => hk e.symm)]
        have hkb : ((n : Int) == kk) = false := by simpa using fun e => hk e.symm
        rw [hz] at d3
        by_cases h0 : 0 < z
        · have h1 : ¬ z ≤ 0 := by omega
          go_wp2_with (at_builtin; refine wpList_append_ownS _ rfl _ _ 32 rfl w.heap.size 70 k0 (.agg #[.string ByteArray.empty, .int .i64 0, .int .i64 0]) 3 32 Try.underlying32 hk1 hk2 hk3 hk4 rfl (by decide) _ _ _ rfl ((hoo.alloc _).alloc _) ⟨wr.heap.size + 1, 0, none⟩ 1 1 [.string x.1, .int .i64 (x.2.1 : Int), .int .i64 z] rfl rfl ?c1 ?c2 ?c3 ?c4 ?c5 ?_)
          case c2 => first | exact ⟨rfl, rfl, rfl⟩ | (intro u hu; simp at hu; rcases hu with rfl | rfl | rfl <;> rfl)
          case c3 => unfold maxLen; omega
          case c4 => omega
          case c5 => first | omega | (have := hb.size; simp; omega)
          intro v1 wa hown1 hgrow1
          have HO1 := Lib.hid (docPush (by omega) hown1)
          have hsz := hb.size
          have hb1 := below_grown ((hb.alloc hsz _).alloc (by simp; omega) _) ((hoo.alloc _).alloc _) hgrow1 (by simp; omega) (Nat.le_refl _)
          have hE : Hid (F = usedFrom l kk more (k - (n + 1)) (n + 1) (out ++ [(x.1, x.2.1, (z).toNat)])) := by rw [hst.out, if_pos (by omega)]; exact Lib.hid rfl
          clear hown1 hgrow1 hoo HO
          go_wp2_with fail
          go_roundw
          case rel => exact ⟨n + 1, _, by omega, by simp; omega, by go_num, HO1, hE, hb1⟩
          case measure => simp [intOf]; omega
        · have h1 : z ≤ 0 := by omega
          have hE : Hid (F = usedFrom l kk more (k - (n + 1)) (n + 1) out) := by rw [hst.out, if_neg (by omega)]; exact Lib.hid rfl
          have hsz := hb.size
          go_wp2_with fail
          go_roundw
          case rel => exact ⟨n + 1, out, by omega, by omega, by go_num, Lib.hid (HO.out.below ((Below.refl _ _).alloc (Nat.le_refl _) _)), hE, hb.alloc hsz _⟩
          case measure => simp [intOf]; omega
    · obtain rfl : n = k := by omega
      have hE : Hid (F = out) := by rw [HF.out, Nat.sub_self]; exact Lib.hid rfl
      go_wp2_with fail
      go_ret
      refine ⟨_, rfl, ?_, hb⟩
      rw [← HE.out, hE.out]
      exact HO.out
end Go.Proofs.Ytoflicfghonhcaa
