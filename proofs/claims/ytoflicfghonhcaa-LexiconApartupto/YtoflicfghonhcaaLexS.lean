/- WALKS OF LAYER 15 (lexicon), the document's side: Find, Name, Uses, Drop, Add. -/
import Derived.Test.YtoflicfghonhcaaLexR
import Derived.Test.YtoflicfghonhcaaLexG
namespace Go.Proofs.Ytoflicfghonhcaa
open Go.RowKit Go.WideMaps Go.Maps
set_option linter.unusedVariables false
theorem placeFrom_spec (p : DW → Bool) (l : List DW) : ∀ (m i : Nat), i + m = l.length → (placeFrom p l m i = -1 ∧ ∀ j, i ≤ j → j < l.length → p (l.getD j default) = false) ∨ (∃ j, i ≤ j ∧ j < l.length ∧ placeFrom p l m i = (j : Int) ∧ p (l.getD j default) = true)
  | 0, i, h => .inl ⟨rfl, fun j h1 h2 => by omega⟩
  | m + 1, i, h => by
    by_cases hp : p (l.getD i default) = true
    · exact .inr ⟨i, Nat.le_refl _, by omega, by unfold placeFrom; rw [if_pos hp], hp⟩
    · have e : placeFrom p l (m + 1) i = placeFrom p l m (i + 1) := by rw [placeFrom, if_neg hp]
      rcases placeFrom_spec p l m (i + 1) (by omega) with ⟨h1, h2⟩ | ⟨j, h1, h2, h3, h4⟩
      · refine .inl ⟨e.trans h1, fun j hj hl => ?_⟩
        rcases Nat.eq_or_lt_of_le hj with rfl | hj
        · simpa using hp
        · exact h2 j hj hl
      · exact .inr ⟨j, by omega, h2, e.trans h3, h4⟩
theorem placeD_spec (p : DW → Bool) (l : List DW) : (placeD p l = -1 ∧ ∀ j, j < l.length → p (l.getD j default) = false) ∨ (∃ j, j < l.length ∧ placeD p l = (j : Int) ∧ p (l.getD j default) = true) := by
  rcases placeFrom_spec p l l.length 0 (by omega) with ⟨h1, h2⟩ | ⟨j, _, h2, h3, h4⟩
  · exact .inl ⟨h1, fun j hj => h2 j (Nat.zero_le _) hj⟩
  · exact .inr ⟨j, h2, h3, h4⟩
def nameAt (s : ByteArray) (x : DW) : Bool := decide (x.1 = s)
def numAt (q : Int) (x : DW) : Bool := decide ((x.2.1 : Int) = q)
def findD (l : List DW) (s : ByteArray) : Int × Bool := if placeD (nameAt s) l < 0 then (0, false) else (((l.getD (placeD (nameAt s) l).toNat default).2.1 : Int), true)
def nameD (l : List DW) (n : Int) : ByteArray × Bool := if placeD (numAt n) l < 0 then (ByteArray.empty, false) else ((l.getD (placeD (numAt n) l).toNat default).1, true)
def usesD (l : List DW) (n : Int) : Int := if placeD (numAt n) l < 0 then 0 else ((l.getD (placeD (numAt n) l).toNat default).2.2 : Int)
theorem rfind_any (B : Nat) (v : Value) (l : List DW) (w : World) (h : DocAt w B v l) (hw : l.length ≤ 1000000) (s : ByteArray) :
    Calls Try.prog 16 #[v, .string s] w fun e w' => e = .returned (.tuple #[.int .i64 (findD l s).1, .bool (findD l s).2]) ∧ w' = w := by
  have H := Lib.hid (byname_any B v l w h hw s)
  rcases placeD_spec (nameAt s) l with ⟨h1, _⟩ | ⟨j, hj, h1, _⟩
  · have hF : Hid (findD l s = (0, false)) := by unfold findD; rw [h1, if_pos (by omega)]; exact Lib.hid rfl
    change Hid (Calls _ _ _ _ fun e w' => e = .returned (.int .i64 (placeD (nameAt s) l)) ∧ w' = w) at H
    rw [h1] at H
    clear h h1
    generalize findD l s = F at *
    go_enter Try.func16, Try.ntmps16
    go_wp2_with fail
    refine H.out.mono ?_
    rintro e w1 ⟨rfl, rfl⟩
    go_wp2_with fail
    go_ret2
    rw [hF.out]
    exact ⟨rfl, rfl⟩
  · have hF : Hid (findD l s = (((l.getD j default).2.1 : Int), true)) := by unfold findD; rw [h1, if_neg (by omega), Int.toNat_natCast]; exact Lib.hid rfl
    change Hid (Calls _ _ _ _ fun e w' => e = .returned (.int .i64 (placeD (nameAt s) l)) ∧ w' = w) at H
    rw [h1] at H
    obtain ⟨g, cap, rfl, _⟩ := OwnS.shape h (by omega)
    obtain ⟨_, d1, _⟩ := h.cells j hj
    obtain ⟨k, hk⟩ : ∃ k, k = l.length := ⟨_, rfl⟩
    rw [← hk] at H hj hw ⊢
    clear h h1 hk
    generalize findD l s = F at *
    generalize l.getD j default = x at *
    go_enter Try.func16, Try.ntmps16
    go_wp2_with fail
    refine H.out.mono ?_
    rintro e w1 ⟨rfl, rfl⟩
    go_wp2_with fail
    go_ret2
    rw [hF.out]
    exact ⟨rfl, rfl⟩
theorem rbname_any (B : Nat) (v : Value) (l : List DW) (w : World) (h : DocAt w B v l) (hw : l.length ≤ 1000000) (q : Int) :
    Calls Try.prog 18 #[v, .int .i64 q] w fun e w' => e = .returned (.tuple #[.string (nameD l q).1, .bool (nameD l q).2]) ∧ w' = w := by
  have H := Lib.hid (bynumber_any B v l w h hw q)
  rcases placeD_spec (numAt q) l with ⟨h1, _⟩ | ⟨j, hj, h1, _⟩
  · have hF : Hid (nameD l q = (ByteArray.empty, false)) := by unfold nameD; rw [h1, if_pos (by omega)]; exact Lib.hid rfl
    change Hid (Calls _ _ _ _ fun e w' => e = .returned (.int .i64 (placeD (numAt q) l)) ∧ w' = w) at H
    rw [h1] at H
    clear h h1
    generalize nameD l q = F at *
    go_enter Try.func18, Try.ntmps18
    go_wp2_with fail
    refine H.out.mono ?_
    rintro e w1 ⟨rfl, rfl⟩
    go_wp2_with fail
    go_ret2
    rw [hF.out]
    exact ⟨rfl, rfl⟩
  · have hF : Hid (nameD l q = ((l.getD j default).1, true)) := by unfold nameD; rw [h1, if_neg (by omega), Int.toNat_natCast]; exact Lib.hid rfl
    change Hid (Calls _ _ _ _ fun e w' => e = .returned (.int .i64 (placeD (numAt q) l)) ∧ w' = w) at H
    rw [h1] at H
    obtain ⟨g, cap, rfl, _⟩ := OwnS.shape h (by omega)
    obtain ⟨d1, _, _⟩ := h.cells j hj
    obtain ⟨k, hk⟩ : ∃ k, k = l.length := ⟨_, rfl⟩
    rw [← hk] at H hj hw ⊢
    clear h h1 hk
    generalize nameD l q = F at *
    generalize l.getD j default = x at *
    go_enter Try.func18, Try.ntmps18
    go_wp2_with fail
    refine H.out.mono ?_
    rintro e w1 ⟨rfl, rfl⟩
    go_wp2_with fail
    go_ret2
    rw [hF.out]
    exact ⟨rfl, rfl⟩
theorem ruses_any (B : Nat) (v : Value) (l : List DW) (w : World) (h : DocAt w B v l) (hw : l.length ≤ 1000000) (q : Int) :
    Calls Try.prog 20 #[v, .int .i64 q] w fun e w' => e = .returned (.int .i64 (usesD l q)) ∧ w' = w := by
  have H := Lib.hid (bynumber_any B v l w h hw q)
  rcases placeD_spec (numAt q) l with ⟨h1, _⟩ | ⟨j, hj, h1, _⟩
  · have hF : Hid (usesD l q = 0) := by unfold usesD; rw [h1, if_pos (by omega)]; exact Lib.hid rfl
    change Hid (Calls _ _ _ _ fun e w' => e = .returned (.int .i64 (placeD (numAt q) l)) ∧ w' = w) at H
    rw [h1] at H
    clear h h1
    generalize usesD l q = F at *
    go_enter Try.func20, Try.ntmps20
    go_wp2_with fail
    refine H.out.mono ?_
    rintro e w1 ⟨rfl, rfl⟩
    go_wp2_with fail
    go_ret
    rw [hF.out]
    exact ⟨rfl, rfl⟩
  · have hF : Hid (usesD l q = ((l.getD j default).2.2 : Int)) := by unfold usesD; rw [h1, if_neg (by omega), Int.toNat_natCast]; exact Lib.hid rfl
    change Hid (Calls _ _ _ _ fun e w' => e = .returned (.int .i64 (placeD (numAt q) l)) ∧ w' = w) at H
    rw [h1] at H
    obtain ⟨g, cap, rfl, _⟩ := OwnS.shape h (by omega)
    obtain ⟨_, _, d1⟩ := h.cells j hj
    obtain ⟨k, hk⟩ : ∃ k, k = l.length := ⟨_, rfl⟩
    rw [← hk] at H hj hw ⊢
    clear h h1 hk
    generalize usesD l q = F at *
    generalize l.getD j default = x at *
    go_enter Try.func20, Try.ntmps20
    go_wp2_with fail
    refine H.out.mono ?_
    rintro e w1 ⟨rfl, rfl⟩
    go_wp2_with fail
    go_ret
    rw [hF.out]
    exact ⟨rfl, rfl⟩
def dropD (l : List DW) (n : Int) : List DW × Bool := if placeD (numAt n) l < 0 then (l, false) else (usedD l (placeD (numAt n) l) (-1), true)
set_option maxRecDepth 100000 in
theorem rdrop_any (B : Nat) (v : Value) (l : List DW) (w : World) (h : DocAt w B v l) (hB : B ≤ w.heap.size) (hw : l.length ≤ 100000) (hu : ∀ i, i < l.length → (l.getD i default).2.2 ≤ 100000) (q : Int) :
    Calls Try.prog 44 #[v, .int .i64 q] w fun e w' => ∃ v', e = .returned (.tuple #[v', .bool (dropD l q).2]) ∧ DocAt w' B v' (dropD l q).1 ∧ Below w.heap.size w w' := by
  have H := Lib.hid (bynumber_any B v l w h (by omega) q)
  have HUS := fun kk more hm => Lib.hid (used_any B v l w h hw hu kk more hm)
  obtain ⟨va, vc, rfl⟩ := OwnS.len h
  have HH := Lib.hid h
  rcases placeD_spec (numAt q) l with ⟨h1, _⟩ | ⟨j, hj, h1, _⟩
  · have hF : Hid (dropD l q = (l, false)) := by unfold dropD; rw [h1, if_pos (by omega)]; exact Lib.hid rfl
    change Hid (Calls _ _ _ _ fun e w' => e = .returned (.int .i64 (placeD (numAt q) l)) ∧ w' = w) at H
    rw [h1] at H
    clear h h1
    generalize dropD l q = F at *
    go_enter Try.func44, Try.ntmps44
    go_wp2_with fail
    refine H.out.mono ?_
    rintro e w1 ⟨rfl, rfl⟩
    go_wp2_with fail
    go_ret2
    rw [hF.out]
    exact ⟨_, rfl, HH.out, Below.refl _ _⟩
  · have hF : Hid (dropD l q = (usedD l (j : Int) (-1), true)) := by unfold dropD; rw [h1, if_neg (by omega)]; exact Lib.hid rfl
    change Hid (Calls _ _ _ _ fun e w' => e = .returned (.int .i64 (placeD (numAt q) l)) ∧ w' = w) at H
    rw [h1] at H
    have HU := HUS (j : Int) (-1) (by omega)
    clear h h1 HUS hu HH
    generalize dropD l q = F at *
    go_enter Try.func44, Try.ntmps44
    go_wp2_with fail
    refine H.out.mono ?_
    rintro e w1 ⟨rfl, rfl⟩
    go_wp2_with fail
    refine HU.out.mono ?_
    rintro e w1 ⟨v', rfl, hd, hb⟩
    go_wp2_with fail
    go_ret2
    rw [hF.out]
    exact ⟨_, rfl, OwnS.mono hd hB, hb⟩
set_option maxRecDepth 100000 in
theorem radd_bad (B : Nat) (v : Value) (l : List DW) (w : World) (h : DocAt w B v l) (s : ByteArray) (hs : s.size ≤ 35184372088832) (hn : nameP s.data.toList = false) :
    Calls Try.prog 43 #[v, .string s] w fun e w' => e = .returned (.tuple #[v, .int .i64 0, .int .i64 63]) ∧ Below w.heap.size w w' := by
  obtain ⟨va, vc, rfl⟩ := OwnS.len h
  have HN := Lib.hid hn
  clear h hn
  go_enter Try.func43, Try.ntmps43
  go_wp2_with fail
  refine (rname_any s hs _).mono ?_
  rw [HN.out]
  rintro e w1 ⟨rfl, hb1⟩
  go_wp2_with fail
  go_ret3
  exact ⟨rfl, hb1⟩
set_option maxRecDepth 100000 in
theorem radd_full (B : Nat) (v : Value) (l : List DW) (w : World) (h : DocAt w B v l) (s : ByteArray) (hs : s.size ≤ 35184372088832) (hn : nameP s.data.toList = true) (hp : placeD (nameAt s) l = -1) (hw : l.length ≤ 100000) (hf : 4000 ≤ l.length) :
    Calls Try.prog 43 #[v, .string s] w fun e w' => e = .returned (.tuple #[v, .int .i64 0, .int .i64 150]) ∧ Below w.heap.size w w' := by
  have HBN := fun w' (h' : DocAt w' B v l) => Lib.hid (byname_any B v l w' h' (by omega) s)
  change ∀ w' (h' : DocAt w' B v l), Hid (Calls _ _ _ _ fun e w2 => e = .returned (.int .i64 (placeD (nameAt s) l)) ∧ w2 = w') at HBN
  rw [hp] at HBN
  obtain ⟨va, vc, rfl⟩ := OwnS.len h
  have HN := Lib.hid hn
  have HH := Lib.hid h
  clear h hn hp
  go_enter Try.func43, Try.ntmps43
  go_wp2_with fail
  refine (rname_any s hs _).mono ?_
  rw [HN.out]
  rintro e w1 ⟨rfl, hb1⟩
  go_wp2_with fail
  refine (HBN w1 (HH.out.below hb1)).out.mono ?_
  rintro e w1 ⟨rfl, rfl⟩
  go_wp2_with fail
  go_ret3
  exact ⟨rfl, hb1⟩
set_option maxRecDepth 100000 in
set_option maxHeartbeats 1000000 in
theorem radd_there (B : Nat) (v : Value) (l : List DW) (w : World) (h : DocAt w B v l) (hB : B ≤ w.heap.size) (s : ByteArray) (hs : s.size ≤ 35184372088832) (hn : nameP s.data.toList = true) (j : Nat) (hj : j < l.length) (hp : placeD (nameAt s) l = (j : Int)) (hw : l.length ≤ 100000) (hu : ∀ i, i < l.length → (l.getD i default).2.2 ≤ 100000) :
    Calls Try.prog 43 #[v, .string s] w fun e w' => ∃ v', e = .returned (.tuple #[v', .int .i64 ((l.getD j default).2.1 : Nat), .int .i64 0]) ∧ DocAt w' B v' (usedD l (j : Int) 1) ∧ Below w.heap.size w w' := by
  have HBN := fun w' (h' : DocAt w' B v l) => Lib.hid (byname_any B v l w' h' (by omega) s)
  change ∀ w' (h' : DocAt w' B v l), Hid (Calls _ _ _ _ fun e w2 => e = .returned (.int .i64 (placeD (nameAt s) l)) ∧ w2 = w') at HBN
  rw [hp] at HBN
  have HUS := fun w' (h' : DocAt w' B v l) => used_any B v l w' h' hw hu (j : Int) 1 (by omega)
  obtain ⟨g, cap, rfl, _⟩ := OwnS.shape h (by omega)
  have HN := Lib.hid hn
  have HH := Lib.hid h
  have HUS := Lib.hid HUS
  have HB := Lib.hid hB
  obtain ⟨q, hq⟩ : ∃ q, q = (l.getD j default).2.1 := ⟨_, rfl⟩
  rw [← hq]
  have HQ := Lib.hid hq
  clear hq
  obtain ⟨k, hk⟩ : ∃ k, k = l.length := ⟨_, rfl⟩
  have hj' : j < k := by omega
  clear h hn hp hu hB
  go_enter Try.func43, Try.ntmps43
  go_wp2_with fail
  refine (rname_any s hs _).mono ?_
  rw [HN.out]
  rintro e w1 ⟨rfl, hb1⟩
  go_wp2_with fail
  refine (HBN w1 (HH.out.below hb1)).out.mono ?_
  rintro e w1 ⟨rfl, rfl⟩
  have hd := HH.out.below hb1
  obtain ⟨_, d1, _⟩ := hd.cells j hj
  rw [← HQ.out] at d1
  have hb := Below.refl w1.heap.size w1
  go_wp2_with fail
  have HKS : Hid (∀ w' w2 : World, (w'.cell? ⟨g, j * 3 + 1, none⟩ = some (.int .i64 (q : Nat)) ∧ Below w1.heap.size w1 w') → Below w'.heap.size w' w2 → (w2.cell? ⟨g, j * 3 + 1, none⟩ = some (.int .i64 (q : Nat)) ∧ Below w1.heap.size w1 w2)) := Lib.hid fun w' w2 h1 h2 => ⟨(h2.cell (by exact block_lt_of_cell h1.1)).trans h1.1, h1.2.trans (h2.mono h1.2.size)⟩
  go_region_held3 (fun w' => w'.cell? ⟨g, j * 3 + 1, none⟩ = some (.int .i64 (q : Nat)) ∧ Below w1.heap.size w1 w')
    (first | exact HKS.out _ _ (by assumption) (by assumption) | exact ⟨d1, (Below.refl _ _).drew⟩ | go_keep)
    (first | (go_at_call 52; refine (HUS.out _ (hd.below (And.right (by assumption)))).mono ?_; rintro e w' ⟨v', rfl, hdd, hba⟩))
  go_wp2_with fail
  go_ret3
  refine ⟨v', rfl, OwnS.mono hdd ?_, hb1.trans ((Below.trans ((Below.refl _ _).drew) hba).mono hb1.size)⟩
  exact Nat.le_trans HB.out hb1.size
section
variable {P : Program} (w : World)
theorem wpList_append_rows {ops : Array Oper} {rest : List Oper} {o : Oper} {a : Act} {Q : Exit → Act → World → Prop} (hgd : o.guard = none) (s x : Operand) (t : TypeId)
    (ho : o.op = .call { callee := .builtin .append, args := #[s, x], argTypes := #[t, t] })
    (base : Nat) (e : TypeId) (i : TypeInfo) (z : Value) (size bytes : Nat) (ht : P.underlying t = some (.slice e)) (hi : P.info? e = some i) (hz : i.zero = some z)
    (hsize : i.size = size) (hby : i.bytes = bytes) (hzs : z.cells.size = size) (hsz : 0 < size)
    (v : Value) (n : Nat) (xs : List Value) (hs : a.eval s = v) (hown : OwnS w base e size v n xs)
    (base2 : Nat) (v2 : Value) (m : Nat) (news : List Value) (hx : a.eval x = v2) (hown2 : OwnS w base2 e size v2 m news) (h1 : ∀ u ∈ news, u.oneCell' = true)
    (h63 : n + m ≤ maxLen) (hbytes : (n + m) * bytes ≤ 140737488355328) (hbase : base ≤ w.heap.size)
    (h : ∀ v' w', OwnS w' base e size v' (n + m) (xs ++ news) → w.grownBy w' v.ownBlock → wpList P ops Q rest (a.put o.dst v') w') : wpList P ops Q (o :: rest) a w := by
  rcases hown2.2 with ⟨rfl, rfl⟩ | ⟨g, cap, cur, rfl, hg, hh, hn, hc, hcs, ht2⟩
  · obtain rfl : news = [] := List.eq_nil_of_length_eq_zero (by simpa using hown2.1)
    refine wpList_plain hgd fun K hK => ?_
    have hr : (Builtin.append_ #[t, t] o.type #[v, .slice none 0 0]).run P w = .ok v w := by
      rcases hown.2 with ⟨rfl, rfl⟩ | ⟨g, cap, cur, rfl, _, _, hnc, _⟩
      · simp [Builtin.append_, run_underlying ht, sizeOf, typeInfo, hi, Builtin.lenOf, Builtin.firstCells]
      · simp [Builtin.append_, run_underlying ht, sizeOf, typeInfo, hi, Builtin.lenOf, Builtin.firstCells, hnc, storeCells]
    unfold Oper.wp execOp
    simp only [ho, resolve, invoke, builtin, Sem.run_bind, Sem.run_pure, Result.andThen_ok, List.map_toArray, List.map_cons, List.map_nil, hs, hx, hr]
    exact hK _ _ (h v w (by simpa using hown) (World.grownBy.refl _ _))
  · have hl := hown2.1
    refine wpList_append_ownS w hgd s x t ho base e i z size bytes ht hi hz hsize hby hzs hsz v n xs hs hown ⟨g, 0, none⟩ m cap news hx hl (fun j u hu => ?_) h1 h63 hbytes hbase h
    have hadd : (⟨g, 0, none⟩ : Addr).add j = ⟨g, j, none⟩ := by unfold Addr.add; split <;> simp_all
    rw [hadd, hown2.cellAt j (by have := (List.getElem?_eq_some_iff.1 hu).1; omega)]
    exact hu
end
theorem docCells_one (l : List DW) : ∀ u ∈ docCells l, u.oneCell' = true := by
  intro u hu
  obtain ⟨x, _, hx⟩ := List.mem_flatMap.1 hu
  simp at hx
  rcases hx with rfl | rfl | rfl <;> rfl
theorem ownS_empty (w : World) (base : Nat) (e : TypeId) (size : Nat) (hb : base ≤ w.heap.size) : OwnS (w.alloc (.cells #[] e)) base e size (.slice (some ⟨w.heap.size, 0, none⟩) 0 0) 0 [] := by
  have := World.ownsRow_lit (base := base) (e := e) (size := size) w #[] 0 hb (Nat.zero_le _) (by simp)
  exact .of_own (by simpa using this)
set_option maxRecDepth 100000 in
set_option maxHeartbeats 1000000 in
theorem radd_new (B : Nat) (v : Value) (l : List DW) (w : World) (h : DocAt w B v l) (hB : B ≤ w.heap.size) (s : ByteArray) (hs : s.size ≤ 35184372088832) (hn : nameP s.data.toList = true) (hp : placeD (nameAt s) l = -1) (hw : l.length < 4000) (N : Nat) (hN1 : 1 ≤ N) (hN2 : N ≤ 100000) (hNf : placeD (numAt (N : Nat)) l = -1) (hNl : ∀ n : Nat, 1 ≤ n → n < N → ∃ j : Nat, placeD (numAt (n : Nat)) l = (j : Int)) :
    Calls Try.prog 43 #[v, .string s] w fun e w' => ∃ v', e = .returned (.tuple #[v', .int .i64 (N : Nat), .int .i64 0]) ∧ DocAt w' B v' (l ++ [(s, N, 1)]) ∧ Below w.heap.size w w' := by
  obtain ⟨k0, hk1, hk2, hk3, hk4⟩ := info_parts infoDW
  have HBN := fun w' (h' : DocAt w' B v l) => Lib.hid (byname_any B v l w' h' (by omega) s)
  change ∀ w' (h' : DocAt w' B v l), Hid (Calls _ _ _ _ fun e w2 => e = .returned (.int .i64 (placeD (nameAt s) l)) ∧ w2 = w') at HBN
  rw [hp] at HBN
  have HNN := Lib.hid (fun w' (h' : DocAt w' B v l) (n : Nat) => bynumber_any B v l w' h' (by omega) (n : Int))
  change Hid (∀ w' (h' : DocAt w' B v l) (n : Nat), Calls _ _ _ _ fun e w2 => e = .returned (.int .i64 (placeD (numAt (n : Nat)) l)) ∧ w2 = w') at HNN
  obtain ⟨va, vc, rfl⟩ := OwnS.len h
  have HN := Lib.hid hn
  have HH := Lib.hid h
  have HB := Lib.hid hB
  have HNf := Lib.hid hNf
  have HNl := Lib.hid hNl
  clear h hn hp hB hNf hNl
  go_enter Try.func43, Try.ntmps43
  go_wp2_with fail
  refine (rname_any s hs _).mono ?_
  rw [HN.out]
  rintro e w1 ⟨rfl, hb1⟩
  go_wp2_with fail
  refine (HBN w1 (HH.out.below hb1)).out.mono ?_
  rintro e w1 ⟨rfl, rfl⟩
  have hd := Lib.hid (HH.out.below hb1)
  go_wp2_with fail
  go_loopw [8] (fun i wr => ∃ n : Nat, 1 ≤ n ∧ n ≤ N ∧ i = .int .i64 (n : Int) ∧ wr = w1) (fun i _ => N - (intOf i).toNat)
  case atStart => exact ⟨1, Nat.le_refl _, hN1, rfl, rfl⟩
  case round =>
    obtain ⟨n, hn1, hn2, rfl, rfl⟩ := hrel
    by_cases hlt : n < N
    · obtain ⟨j, hj⟩ := HNl.out n hn1 hlt
      have HC := Lib.hid (HNN.out wr hd.out n)
      rw [hj] at HC
      clear hj
      go_wp2_with fail
      refine HC.out.mono ?_
      rintro e w2 ⟨rfl, rfl⟩
      go_wp2_with fail
      go_roundw
      case rel => exact ⟨n + 1, by omega, by omega, by go_num, trivial⟩
      case measure => simp [intOf]; omega
    · obtain rfl : n = N := by omega
      have HC := Lib.hid (HNN.out wr hd.out n)
      rw [HNf.out] at HC
      go_wp2_with fail
      refine HC.out.mono ?_
      rintro e w2 ⟨rfl, rfl⟩
      have hB2 : B ≤ w2.heap.size := Nat.le_trans HB.out hb1.size
      go_wp2_with (at_builtin; refine wpList_append_rows _ rfl _ _ 32 rfl w2.heap.size 70 k0 (.agg #[.string ByteArray.empty, .int .i64 0, .int .i64 0]) 3 32 Try.underlying32 hk1 hk2 hk3 hk4 rfl (by decide) _ _ _ rfl (ownS_empty w2 w2.heap.size 70 3 (Nat.le_refl _)) B _ l.length (docCells l) rfl (OwnS.alloc hd.out _) (docCells_one l) ?c3 ?c4 ?c5 ?_)
      case c3 => unfold maxLen; omega
      case c4 => omega
      case c5 => first | omega | (simp; done) | (simp; omega)
      intro v1 wa hown1 hgrow1
      have hb2 := below_grown (B := w2.heap.size) ((Below.refl w2.heap.size w2).alloc (Nat.le_refl _) (.cells #[] 70)) (ownS_empty w2 w2.heap.size 70 3 (Nat.le_refl _)) hgrow1 (by simp) (Nat.le_refl _)
      obtain ⟨va1, vc1, rfl⟩ := hown1.len
      have hwa := hb2.size
      go_wp2_with (at_builtin; refine wpList_append_ownS _ rfl _ _ 32 rfl w2.heap.size 70 k0 (.agg #[.string ByteArray.empty, .int .i64 0, .int .i64 0]) 3 32 Try.underlying32 hk1 hk2 hk3 hk4 rfl (by decide) _ _ _ rfl (hown1.alloc _) ⟨wa.heap.size, 0, none⟩ 1 1 [.string s, .int .i64 (n : Int), .int .i64 1] rfl rfl ?e1 ?e2 ?e3 ?e4 ?e5 ?_)
      case e1 => intro jj u hu; exact three_new _ _ _ _ _ jj u hu
      case e2 => intro u hu; simp at hu; rcases hu with rfl | rfl | rfl <;> rfl
      case e3 => unfold maxLen; omega
      case e4 => omega
      case e5 => simp; omega
      intro v2 wb hown2 hgrow2
      have hb3 := below_grown (B := w2.heap.size) (hb2.alloc hwa _) (hown1.alloc _) hgrow2 (by simp; omega) (Nat.le_refl _)
      go_wp2_with fail
      go_ret3
      exact ⟨_, rfl, OwnS.mono (docPush (z := 1) (by omega) hown2) hB2, hb1.trans (hb3.mono hb1.size)⟩
end Go.Proofs.Ytoflicfghonhcaa
