/- LAYER 13 (tabula): join. -/
import Derived.Test.YtdgapagpmdfndaaTabH
namespace Go.Proofs.Ytdgapagpmdfndaa
open Go.RowKit
set_option linter.unusedVariables false
section
variable {P : Program} (w : World)
/-- append, whatever its source: nil, empty or not. -/
theorem run_append_src (base : Nat) (t ty e : TypeId) (i : TypeInfo) (z : Value) (size bytes : Nat) (ht : P.underlying t = some (.slice e)) (hi : P.info? e = some i) (hz : i.zero = some z)
    (hsize : i.size = size) (hby : i.bytes = bytes) (hzs : z.cells.size = size) (hsz : 0 < size)
    (v : Value) (n : Nat) (xs : List Value) (hown : OwnS w base e size v n xs)
    {base2 : Nat} (x : Value) (m : Nat) (news : List Value) (hx : OwnS w base2 e size x m news) (h1 : ∀ u ∈ news, u.oneCell' = true)
    (h63 : n + m ≤ maxLen) (hbytes : (n + m) * bytes ≤ 140737488355328) (hbase : base ≤ w.heap.size) :
    ∃ v' w', (Builtin.append_ #[t, t] ty #[v, x]).run P w = .ok v' w' ∧ OwnS w' base e size v' (n + m) (xs ++ news) ∧ w.grownBy w' v.ownBlock ∧ ∀ r, v'.ownBlock = some r → v.ownBlock = some r ∨ w.heap.size ≤ r := by
  obtain ⟨hl, ⟨rfl, rfl⟩ | ⟨g, cap, cur, rfl, hg, hh, hnc, hcm, hcs, htk⟩⟩ := hx
  · obtain rfl : news = [] := List.eq_nil_of_length_eq_zero (by simpa using hl)
    refine ⟨v, w, ?_, by simpa using hown, World.grownBy.refl _ _, fun r hr => .inl hr⟩
    rcases hown.2 with ⟨rfl, rfl⟩ | ⟨g, cap, cur, rfl, _, _, hnc, _⟩
    · simp [Builtin.append_, run_underlying ht, sizeOf, typeInfo, hi, Builtin.lenOf, Builtin.firstCells]
    · simp [Builtin.append_, run_underlying ht, sizeOf, typeInfo, hi, Builtin.lenOf, Builtin.firstCells, hnc, storeCells]
  · refine run_append_ownN (P := P) w base t ty e i z size bytes ht hi hz hsize hby hzs hsz v n xs hown ⟨g, 0, none⟩ m cap news hl (fun j u hu => ?_) h1 h63 hbytes hbase
    have hadd : (⟨g, 0, none⟩ : Addr).add j = ⟨g, j, none⟩ := by unfold Addr.add; split <;> simp_all
    rw [hadd, cell_of_row w g j cur e (0, 0) hh]
    rw [← htk, List.getElem?_take] at hu
    split at hu
    · simpa using hu
    · cases hu
end
set_option maxRecDepth 100000 in
set_option maxHeartbeats 2000000 in
/-- Two parts that have too much together are left. -/
theorem join_no {w : World} {B p pa pb : Nat} {rv sv rva sva rvb svb : Value} {rows ra rb : List Row} {subs sa sb : List Nat} {m ma mb : Int} (k : Nat)
    (hn : NodeAt w B p rv sv rows subs m) (ha : NodeAt w B pa rva sva ra sa ma) (hb : NodeAt w B pb rvb svb rb sb mb) (hk : k + 1 < subs.length) (hl : subs.length ≤ 1000) (ka : subs.getD k default = pa) (kb : subs.getD (k + 1) default = pb)
    (hla : ra.length ≤ 1000) (hlb : rb.length ≤ 1000) (hsa : sa.length ≤ 1000) (hsb : sb.length ≤ 1000) (h4 : 4 < ra.length + rb.length ∨ 4 < sa.length + sb.length) :
    Calls Try.prog 50 #[.pointer (some ⟨p, 0, none⟩), .int .i64 (k : Int)] w fun e w' => (∃ v, e = .returned v) ∧ Below w.heap.size w w' := by
  obtain ⟨c0, c1, c2⟩ := hn.cells
  obtain ⟨a0, a1, a2⟩ := ha.cells
  obtain ⟨b0, b1, b2⟩ := hb.cells
  obtain ⟨g, cap, rfl, _, hg, hcap⟩ := hn.ss.shape (by omega)
  have d1 := hn.ss.cellAt k (by omega)
  have d2 := hn.ss.cellAt (k + 1) (by omega)
  rw [ptrCells_at _ k (by omega), ka] at d1
  rw [ptrCells_at _ (k + 1) hk, kb] at d2
  obtain ⟨raa, rac, rfl⟩ := ha.rs.len
  obtain ⟨saa, sac, rfl⟩ := ha.ss.len
  obtain ⟨rba, rbc, rfl⟩ := hb.rs.len
  obtain ⟨sba, sbc, rfl⟩ := hb.ss.len
  generalize subs.length = n at *
  generalize ra.length = la at *
  generalize rb.length = lb at *
  generalize sa.length = na at *
  generalize sb.length = nb at *
  have z1 : (k : Int) < (n : Int) := by omega
  have z2 : IntKind.i64.wrap ((k : Int) + 1) = (k : Int) + 1 := by rw [IntKind.wrap_i64]; omega
  have z3 : (k : Int) + 1 < (n : Int) := by omega
  have z4 : (0 : Int) ≤ (k : Int) + 1 := by omega
  have z5 : (0 : Int) ≤ (k : Int) := by omega
  have z6 : IntKind.i64.wrap ((la : Int) + (lb : Int)) = (la : Int) + (lb : Int) := by rw [IntKind.wrap_i64]; omega
  have z7 : IntKind.i64.wrap ((na : Int) + (nb : Int)) = (na : Int) + (nb : Int) := by rw [IntKind.wrap_i64]; omega
  have z8 : (((k : Int) + 1).toNat) = k + 1 := by omega
  clear hn ha hb ka kb
  by_cases h1 : 4 < la + lb
  · have hd1 : decide ((4 : Int) < (la : Int) + (lb : Int)) = true := by simp; omega
    go_enter Try.func50, Try.ntmps50
    go_wp2_with fail
    go_quiet (fail)
    go_wp2_with fail
    go_quiet (fail)
    go_wp2_with fail
    refine bodyPost_ret (results_none rfl _ _ _) rfl ?_
    exact ⟨⟨_, rfl⟩, below_drewN (below_drewN (Below.refl _ _) _) _⟩
  · have hd1 : decide ((4 : Int) < (la : Int) + (lb : Int)) = false := by simp; omega
    have hd2 : decide ((4 : Int) < (na : Int) + (nb : Int)) = true := by simp; omega
    go_enter Try.func50, Try.ntmps50
    go_wp2_with fail
    go_quiet (fail)
    go_wp2_with fail
    go_quiet (fail)
    go_wp2_with fail
    refine bodyPost_ret (results_none rfl _ _ _) rfl ?_
    exact ⟨⟨_, rfl⟩, below_drewN (below_drewN (Below.refl _ _) _) _⟩
/-- append, under a name that the walk does not open. -/
@[irreducible] def appSem (a : Array TypeId) (t : TypeId) (args : Array Value) : Sem Value := Builtin.append_ a t args
theorem append_eq (a : Array TypeId) (t : TypeId) (args : Array Value) : Builtin.append_ a t args = appSem a t args := by unfold appSem; rfl
section
attribute [local go_sem ↓] append_eq
set_option maxRecDepth 100000 in
set_option maxHeartbeats 4000000 in
/-- .. or made one. -/
theorem join_yes {w : World} {B p pa pb : Nat} {rv sv rva sva rvb svb : Value} {rows ra rb : List Row} {subs sa sb : List Nat} {m ma mb : Int} (k : Nat) (hB : B ≤ w.heap.size)
    (hn : NodeAt w B p rv sv rows subs m) (ha : NodeAt w B pa rva sva ra sa ma) (hb : NodeAt w B pb rvb svb rb sb mb) (hk : k + 1 < subs.length) (hl : subs.length ≤ 1000) (ka : subs.getD k default = pa) (kb : subs.getD (k + 1) default = pb)
    (hr : ra.length + rb.length ≤ 4) (hs : sa.length + sb.length ≤ 4) (hno : ∀ x, nodeF p rv sv x → ¬ nodeF pa rva sva x) (hnb : ∀ x, nodeF pa rva sva x → ¬ nodeF pb rvb svb x)
    (ms : List Nat) (hms : ms.length = (sa ++ sb).length) (hm : ∀ i, i < (sa ++ sb).length → w.cell? ⟨(sa ++ sb).getD i default, 2, none⟩ = some (.int .i64 (ms.getD i default : Nat)) ∧ ¬ nodeF pa rva sva ((sa ++ sb).getD i default)) (hmb : ∀ x ∈ ms, x ≤ 1000000000) :
    Calls Try.prog 50 #[.pointer (some ⟨p, 0, none⟩), .int .i64 (k : Int)] w fun e w' => (∃ v, e = .returned v) ∧ ∃ rva' sva' sv', NodeAt w' B pa rva' sva' (ra ++ rb) (sa ++ sb) (((ra ++ rb).length + sumN ms : Nat) : Int) ∧ NodeAt w' B p rv sv' rows (subs.take (k + 1) ++ subs.drop (k + 2)) m ∧
      (∀ x, nodeF pa rva' sva' x → nodeF pa rva sva x ∨ w.heap.size ≤ x) ∧ (∀ x, sv'.ownBlock = some x → sv.ownBlock = some x) ∧ Frm (fun x => nodeF pa rva sva x ∨ x = p ∨ sv.ownBlock = some x) w w' := by
  obtain ⟨i0, hk1, hk2, hk3, hk4⟩ := info_parts infoRow
  obtain ⟨i1, hj1, hj2, hj3, hj4⟩ := info_parts infoPtr
  obtain ⟨c0, c1, c2⟩ := hn.cells
  obtain ⟨a0, a1, a2⟩ := ha.cells
  obtain ⟨b0, b1, b2⟩ := hb.cells
  obtain ⟨g, cap, rfl, _, hg, hcap⟩ := hn.ss.shape (by omega)
  have d1 := hn.ss.cellAt k (by omega)
  have d2 := hn.ss.cellAt (k + 1) (by omega)
  rw [ptrCells_at _ k (by omega), ka] at d1
  rw [ptrCells_at _ (k + 1) hk, kb] at d2
  obtain ⟨raa, rac, rfl⟩ := ha.rs.len
  obtain ⟨saa, sac, rfl⟩ := ha.ss.len
  obtain ⟨rba, rbc, rfl⟩ := hb.rs.len
  obtain ⟨sba, sbc, rfl⟩ := hb.ss.len
  have hpw : p < w.heap.size := lt_of_block hn.row
  have HN := Lib.hid hn
  have HA := Lib.hid ha
  have HB := Lib.hid hb
  have HNO := Lib.hid hno
  have HNB := Lib.hid hnb
  have HMS := Lib.hid (And.intro hms (And.intro hm hmb))
  obtain ⟨n, hnn⟩ : ∃ n, n = subs.length := ⟨_, rfl⟩
  obtain ⟨la, hla⟩ : ∃ la, la = ra.length := ⟨_, rfl⟩
  obtain ⟨lb, hlb⟩ : ∃ lb, lb = rb.length := ⟨_, rfl⟩
  obtain ⟨na, hna⟩ : ∃ na, na = sa.length := ⟨_, rfl⟩
  obtain ⟨nb, hnb'⟩ : ∃ nb, nb = sb.length := ⟨_, rfl⟩
  have HLS := Lib.hid (And.intro hnn (And.intro hla (And.intro hlb (And.intro hna hnb'))))
  rw [← hnn] at c1 hk hl
  rw [← hla] at a0 hr
  rw [← hlb] at b0 hr
  rw [← hna] at a1 hs
  rw [← hnb'] at b1 hs
  have z1 : (k : Int) < (n : Int) := by omega
  have z2 : IntKind.i64.wrap ((k : Int) + 1) = (k : Int) + 1 := by rw [IntKind.wrap_i64]; omega
  have z3 : (k : Int) + 1 < (n : Int) := by omega
  have z4 : (0 : Int) ≤ (k : Int) + 1 := by omega
  have z5 : (0 : Int) ≤ (k : Int) := by omega
  have z6 : IntKind.i64.wrap ((la : Int) + (lb : Int)) = (la : Int) + (lb : Int) := by rw [IntKind.wrap_i64]; omega
  have z7 : IntKind.i64.wrap ((na : Int) + (nb : Int)) = (na : Int) + (nb : Int) := by rw [IntKind.wrap_i64]; omega
  have z8 : (((k : Int) + 1).toNat) = k + 1 := by omega
  clear hn ha hb ka kb hno hnb hms hm hmb hnn hla hlb hna hnb'
  have hd1 : decide ((4 : Int) < (la : Int) + (lb : Int)) = false := by simp; omega
  have hd2 : decide ((4 : Int) < (na : Int) + (nb : Int)) = false := by simp; omega
  go_enter Try.func50, Try.ntmps50
  go_wp2_with fail
  go_quiet (fail)
  revert nq
  intro q1
  go_wp2_with fail
  go_quiet (fail)
  go_wp2_with fail
  have hbw : Below w.heap.size w ((w.drewN q1).drewN nq) := below_drewN (below_drewN (Below.refl _ _) _) _
  generalize World.drewN (World.drewN w q1) nq = w1 at *
  have HN1 := Lib.hid (HN.out.below hbw)
  have HA1 := Lib.hid (HA.out.below hbw)
  have HB1 := Lib.hid (HB.out.below hbw)
  have HBW := Lib.hid hbw
  have hsz : w.heap.size ≤ w1.heap.size := hbw.size
  have hBs : B ≤ w1.heap.size := by omega
  clear hbw d1 d2 z1 z2 z3 z4 z5 z6 z7 z8 hd1 hd2 c0 c1 c2 a0 a1 a2 b0 b1 b2 HN HA HB
  obtain ⟨e1, e2, e3, e4, e5⟩ := HLS.out
  obtain ⟨a0, a1, a2⟩ := HA1.out.cells
  obtain ⟨b0, b1, b2⟩ := HB1.out.cells
  rw [← e2] at a0
  rw [← e4] at a1
  rw [← e3] at b0
  rw [← e5] at b1
  -- the first append
  have hrs := HA1.out.rs
  rw [← e2] at hrs
  have hrb := HB1.out.rs
  rw [← e3] at hrb
  obtain ⟨v1, W1, hr1, ho1, hg1, hn1⟩ := run_append_src (P := Try.prog) w1.drew B 56 56 68 i0 (.agg #[.int .i64 0, .int .i64 0]) 2 16 Try.underlying56 hk1 hk2 hk3 hk4 rfl (by decide) _ la _ (hrs.below (Below.refl _ _).drew) _ lb _ (hrb.below (Below.refl _ _).drew) (rowCells_one _) (by have : maxLen = 9223372036854775807 := rfl; omega) (by omega) hBs
  have f1 : Frm (fun x => (Value.slice raa la rac).ownBlock = some x) w1 W1 := (Frm.refl (fun x => (Value.slice raa la rac).ownBlock = some x) w1).drew.grown hg1 fun x e => .inl e
  have hss := HA1.out.ss
  rw [← e4] at hss
  have hsb := HB1.out.ss
  rw [← e5] at hsb
  have dis : ∀ x, (Value.slice saa na sac).ownBlock = some x → ¬ (Value.slice raa la rac).ownBlock = some x := fun x hx hy => by
    obtain ⟨_, _, u1, h1⟩ := hss.block x hx
    obtain ⟨_, _, u2, h2⟩ := hrs.block x hy
    rw [h1] at h2
    simp at h2
  have disb : ∀ x, nodeF pb (.slice rba lb rbc) (.slice sba nb sbc) x → ¬ (Value.slice raa la rac).ownBlock = some x := fun x hx hy => by
    rw [e3, e5] at hx
    rw [e2] at hy
    exact HNB.out x (.inr (.inl hy)) hx
  have npr : ¬ (Value.slice raa la rac).ownBlock = some pa := by rw [e2]; exact HA1.out.neR pa
  have nps : ¬ (Value.slice saa na sac).ownBlock = some pa := by rw [e4]; exact HA1.out.neS pa
  have halt : pa < w1.heap.size := lt_of_block HA1.out.row
  have hblt : pb < w1.heap.size := lt_of_block HB1.out.row
  have hss1 := hss.frm f1 dis
  have hsb1 := hsb.frm f1 fun x hx => disb x (.inr (.inr hx))
  have hsz1 : w1.heap.size ≤ W1.heap.size := f1.size
  have p0 := (f1.cell (p := ⟨pa, 0, none⟩) (by exact halt) npr).trans a0
  have p1 := (f1.cell (p := ⟨pa, 1, none⟩) (by exact halt) npr).trans a1
  have p2 := (f1.cell (p := ⟨pb, 0, none⟩) (by exact hblt) (disb pb (.inl rfl))).trans b0
  have p3 := (f1.cell (p := ⟨pb, 1, none⟩) (by exact hblt) (disb pb (.inl rfl))).trans b1
  -- the second
  obtain ⟨v2, W2, hr2, ho2, hg2, hn2⟩ := run_append_src (P := Try.prog) W1 B 57 57 55 i1 (.pointer none) 1 8 Try.underlying57 hj1 hj2 hj3 hj4 rfl (by decide) _ na _ hss1 _ nb _ hsb1 (ptrCells_one _) (by have : maxLen = 9223372036854775807 := rfl; omega) (by omega) (by omega)
  have f2 : Frm (fun x => (Value.slice saa na sac).ownBlock = some x) W1 W2 := (Frm.refl (fun x => (Value.slice saa na sac).ownBlock = some x) W1).grown hg2 fun x e => .inl e
  have ho12 : OwnS W2 B 68 2 v1 (la + lb) (rowCells ra ++ rowCells rb) := ho1.frm f2 fun x hx hy => by
    obtain ⟨_, _, u1, h1⟩ := hss1.block x hy
    obtain ⟨_, _, u2, h2⟩ := ho1.block x hx
    rw [h1] at h2
    simp at h2
  have s0 := (f2.cell (p := ⟨pa, 0, none⟩) (by show pa < _; omega) nps).trans p0
  have s1 := (f2.cell (p := ⟨pa, 1, none⟩) (by show pa < _; omega) nps).trans p1
  have srow := (f2.block pa (by omega) nps).trans ((f1.block pa halt npr).trans HA1.out.row)
  have fz0 := free_row srow 0
  have fz1 := free_row srow 1
  obtain ⟨v1a, v1c, rfl⟩ := ho12.len
  obtain ⟨v2a, v2c, rfl⟩ := ho2.len
  rw [append_eq] at hr1 hr2
  have HV1 := Lib.hid (show ∀ x, (Value.slice v1a (la + lb) v1c).ownBlock = some x → nodeF pa (.slice raa la rac) (.slice saa na sac) x ∨ w.heap.size ≤ x from fun x hx => by
    rcases hn1 x hx with h | h
    · exact .inl (.inr (.inl h))
    · exact .inr (by have h : w1.heap.size ≤ x := h; omega))
  have HV2 := Lib.hid (show ∀ x, (Value.slice v2a (na + nb) v2c).ownBlock = some x → nodeF pa (.slice raa la rac) (.slice saa na sac) x ∨ w.heap.size ≤ x from fun x hx => by
    rcases hn2 x hx with h | h
    · exact .inl (.inr (.inr h))
    · exact .inr (by omega))
  have q12 : Frm (nodeF pa (.slice raa la rac) (.slice saa na sac)) w1 W2 := (f1.weak fun x _ h => .inr (.inl h)).then f2 fun x _ h => .inr (.inr h)
  have Q12 := Lib.hid q12
  have HSROW := Lib.hid srow
  have HO1 := Lib.hid ho12
  have HO2 := Lib.hid ho2
  clear e1 e2 e3 e4 e5
  clear hrs hrb f1 hg1 hn1 ho1 hss hsb dis disb npr nps hss1 hsb1 hg2 f2 srow ho12 hn2 ho2 q12
  go_region
  have h1 : (W2.setCell ⟨pa, 0, none⟩ (.slice v1a (la + lb) v1c)).heap[pa]? = some (.cells #[.slice v1a (la + lb) v1c, .slice saa sa.length sac, .int .i64 ma] 59 (0, 0)) := by
    rw [heap_setCell_same _ _ _ _ _ _ HSROW.out]; rfl
  have h2 : ((W2.setCell ⟨pa, 0, none⟩ (.slice v1a (la + lb) v1c)).setCell ⟨pa, 1, none⟩ (.slice v2a (na + nb) v2c)).heap[pa]? = some (.cells #[.slice v1a (la + lb) v1c, .slice v2a (na + nb) v2c, .int .i64 ma] 59 (0, 0)) := by
    rw [heap_setCell_same _ _ _ _ _ _ h1]; rfl
  have n1 : ∀ x, (Value.slice v1a (la + lb) v1c).ownBlock = some x → x ≠ pa := fun x hx e => by
    obtain ⟨_, _, cur, hc⟩ := HO1.out.block x hx
    rw [e, HSROW.out] at hc
    simp at hc
  have n2 : ∀ x, (Value.slice v2a (na + nb) v2c).ownBlock = some x → x ≠ pa := fun x hx e => by
    obtain ⟨_, _, cur, hc⟩ := HO2.out.block x hx
    rw [e, HSROW.out] at hc
    simp at hc
  have hNA : NodeAt ((W2.setCell ⟨pa, 0, none⟩ (.slice v1a (la + lb) v1c)).setCell ⟨pa, 1, none⟩ (.slice v2a (na + nb) v2c)) B pa (.slice v1a (la + lb) v1c) (.slice v2a (na + nb) v2c) (ra ++ rb) (sa ++ sb) ma := by
    obtain ⟨e1, e2, e3, e4, e5⟩ := HLS.out
    refine ⟨h2, ?_, ?_, HA1.out.bp⟩
    · rw [rowCells_append, List.length_append, ← e2, ← e3]
      exact HO1.out.keep fun x hx => (Below.heap_setCell _ _ _ _ (n1 x hx)).trans (Below.heap_setCell _ _ _ _ (n1 x hx))
    · rw [ptrCells_append, List.length_append, ← e4, ← e5]
      exact HO2.out.keep fun x hx => (Below.heap_setCell _ _ _ _ (n2 x hx)).trans (Below.heap_setCell _ _ _ _ (n2 x hx))
  have hf3 : Frm (nodeF pa (.slice raa la rac) (.slice saa na sac)) w1 ((W2.setCell ⟨pa, 0, none⟩ (.slice v1a (la + lb) v1c)).setCell ⟨pa, 1, none⟩ (.slice v2a (na + nb) v2c)) := (Q12.out.setCell (p := ⟨pa, 0, none⟩) (.inl (.inl rfl)) _).setCell (p := ⟨pa, 1, none⟩) (.inl (.inl rfl)) _
  go_wp2_with fail
  generalize World.setCell (World.setCell W2 _ _) _ _ = W3 at *
  clear h1 h2 n1 n2 hr1 hr2 p0 p1 p2 p3 s0 s1 fz0 fz1 a0 a1 a2 b0 b1 b2
  obtain ⟨e1, e2, e3, e4, e5⟩ := HLS.out
  obtain ⟨m1, m2, m3⟩ := HMS.out
  have hno := HNO.out
  rw [← e1, ← e2, ← e4] at hno
  rw [← e2, ← e4] at m2
  have hsz3 : w1.heap.size ≤ W3.heap.size := hf3.size
  have HCT := Lib.hid (count_any hNA ms m1 (fun i hi => by
    obtain ⟨h1, h2⟩ := m2 i hi
    have hl1 : (sa ++ sb).getD i default < w.heap.size := block_lt_of_cell h1
    exact ⟨(hf3.cell (by show (sa ++ sb).getD i default < _; omega) h2).trans ((HBW.out.cell (by exact hl1)).trans h1), fun e => h2 (.inl e)⟩)
    (by rw [List.length_append, ← e2, ← e3]; omega) (by rw [List.length_append, ← e4, ← e5]; omega) m3)
  have hplt : p < w1.heap.size := lt_of_block HN1.out.row
  have hN3 := HN1.out.keep (w' := W3) fun x hx => hf3.block x (HN1.out.lt x hx).1 (by rw [← e1] at hx; exact hno x hx)
  have HN3 := Lib.hid hN3
  have HF3 := Lib.hid hf3
  have HNN := Lib.hid hno
  clear hN3 hf3 hNA m1 m2 m3 hno
  clear e1 e2 e3 e4 e5
  refine HCT.out.mono ?_
  rintro e W4 ⟨⟨u, rfl⟩, hA4, hf4⟩
  have hpa : p ≠ pa := fun e => HNN.out p (.inl rfl) (.inl e)
  have hN4 := HN3.out.keep (w' := W4) fun x hx => hf4.block x (HN3.out.lt x hx).1 (fun e => HNN.out x (by rw [HLS.out.1]; exact hx) (.inl e))
  obtain ⟨c0, c1, c2⟩ := hN4.cells
  have hss4 := hN4.ss
  rw [← HLS.out.1] at c1
  have HREM := Lib.hid (remP_any (n := n - 1) hss4 (by have := HLS.out.1; omega) (k + 1) (by omega) (by omega))
  rw [← HLS.out.1] at HREM
  have HN4 := Lib.hid hN4
  have HA4 := Lib.hid hA4
  have HF4 := Lib.hid hf4
  have z2 : IntKind.i64.wrap ((k : Int) + 1) = ((k + 1 : Nat) : Int) := by rw [IntKind.wrap_i64]; omega
  clear hN4 hA4 hf4 hss4 c0 c2
  go_wp2_with fail
  refine HREM.out.mono ?_
  rintro e W5 ⟨v', rfl, hoI, hfI, hnI⟩
  obtain ⟨va', vc', rfl⟩ := hoI.len
  have hgp : ¬ (Value.slice (some (⟨g, 0, none⟩ : Addr)) n cap).ownBlock = some p := by rw [HLS.out.1]; exact HN4.out.neS p
  have hp4 : p < W4.heap.size := lt_of_block HN4.out.row
  have q1 := (hfI.cell (p := ⟨p, 1, none⟩) (by exact hp4) hgp).trans c1
  have q2 := free_row ((hfI.block p (by exact hp4) hgp).trans HN4.out.row) 1
  have HI := Lib.hid (And.intro hoI (And.intro hfI hnI))
  clear hoI hfI hnI
  go_wp2_with fail
  go_end0
  obtain ⟨hoI, hfI, hnI⟩ := HI.out
  have hgx : ∀ x, (Value.slice (some (⟨g, 0, none⟩ : Addr)) n cap).ownBlock = some x → x = g := fun x e => by
    have h1 : g = x := by simpa [Value.ownBlock] using e
    exact h1.symm
  have hpaF : ∀ x, nodeF pa (.slice v1a (la + lb) v1c) (.slice v2a (na + nb) v2c) x → nodeF pa (.slice raa la rac) (.slice saa na sac) x ∨ w.heap.size ≤ x := fun x hx => by
    rcases hx with hx | hx | hx
    · exact .inl (.inl hx)
    · exact HV1.out x hx
    · exact HV2.out x hx
  have hnx : ∀ x, nodeF pa (.slice v1a (la + lb) v1c) (.slice v2a (na + nb) v2c) x → x ≠ g ∧ x ≠ p := fun x hx => by
    rcases hpaF x hx with h | h
    · exact ⟨fun e => HNN.out g (.inr (.inr rfl)) (by rw [← e]; exact h), fun e => HNN.out p (.inl rfl) (by rw [← e]; exact h)⟩
    · omega
  have hA5 : NodeAt (W5.setCell ⟨p, 1, none⟩ (.slice va' (n - 1) vc')) B pa (.slice v1a (la + lb) v1c) (.slice v2a (na + nb) v2c) (ra ++ rb) (sa ++ sb) (((ra ++ rb).length + sumN ms : Nat) : Int) := HA4.out.keep fun x hx => by
    refine (Below.heap_setCell _ _ _ _ (hnx x hx).2).trans (hfI.block x (HA4.out.lt x hx).1 fun e => (hnx x hx).1 (hgx x e))
  have hlen : (subs.take (k + 1) ++ subs.drop (k + 2)).length = n - 1 := by
    have := HLS.out.1
    rw [List.length_append, List.length_take, List.length_drop]
    omega
  have hN5 : NodeAt (W5.setCell ⟨p, 1, none⟩ (.slice va' (n - 1) vc')) B p rv (.slice va' (n - 1) vc') rows (subs.take (k + 1) ++ subs.drop (k + 2)) m := HN4.out.setSubs (w' := W5) (fun x hx => by
    rcases hx with rfl | hx
    · exact hfI.block _ hp4 hgp
    · refine hfI.block x (HN4.out.lt x (.inr (.inl hx))).1 fun e => ?_
      obtain ⟨_, _, u1, h1⟩ := HN4.out.rs.block x hx
      rw [HLS.out.1] at e
      obtain ⟨_, _, u2, h2⟩ := HN4.out.ss.block x e
      rw [h1] at h2
      simp at h2) (by rw [hlen]; exact hoI)
  have hF : Frm (fun x => nodeF pa (.slice raa la rac) (.slice saa na sac) x ∨ x = p ∨ (Value.slice (some (⟨g, 0, none⟩ : Addr)) n cap).ownBlock = some x) w (W5.setCell ⟨p, 1, none⟩ (.slice va' (n - 1) vc')) :=
    ((((Frm.of_below HBW.out).then HF3.out fun x _ h => .inl h).then HF4.out fun x _ e => .inl (.inl e)).then hfI fun x _ e => .inr (.inr e)).setCell (p := ⟨p, 1, none⟩) (.inl (.inr (.inl rfl))) _
  refine ⟨⟨_, rfl⟩, _, _, _, hA5, hN5, fun x hx => ?_, fun x hx => ?_, ?_⟩
  · rw [← HLS.out.2.1, ← HLS.out.2.2.2.1]
    exact hpaF x hx
  · rw [← HLS.out.1]; exact hnI x hx
  · rw [← HLS.out.1, ← HLS.out.2.1, ← HLS.out.2.2.2.1]; exact hF
end
end Go.Proofs.Ytdgapagpmdfndaa
