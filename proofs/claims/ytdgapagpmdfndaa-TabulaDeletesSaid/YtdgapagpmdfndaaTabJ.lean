/- LAYER 13 (tabula): Put on a table, whatever mend does; mend where a table is not too deep. -/
import Derived.Test.YtdgapagpmdfndaaTabI
namespace Go.Proofs.Ytdgapagpmdfndaa
open Go.RowKit
set_option linter.unusedVariables false
/-- What mend leaves. -/
def MendOk (w w' : World) (B lo t : Nat) (k : Kid) : Prop := ∃ (h' : Nat) (k' : Kid), TabAt w' B lo h' t k' ∧ k'.L = k.L ∧ h' + 1 ≤ 2 + halvesN k.L.length ∧ (∀ x, k'.F x → k.F x ∨ w.heap.size ≤ x) ∧ Frm (tabF t k) w w'
/-- What Put leaves. -/
def PutT (w w' : World) (B lo t : Nat) (k : Kid) (L : List Row) : Prop := ∃ (h' : Nat) (k' : Kid), TabAt w' B lo h' t k' ∧ k'.L = L ∧ h' + 1 ≤ 2 + halvesN L.length ∧ (∀ x, k'.F x → k.F x ∨ w.heap.size ≤ x) ∧ Frm (tabF t k) w w'
theorem MendOk.put {w0 w w' : World} {B lo t : Nat} {k0 k : Kid} {L : List Row} (h : MendOk w w' B lo t k) (hL : k.L = L) (hF : ∀ x, k.F x → k0.F x ∨ w0.heap.size ≤ x) (hf : Frm (tabF t k0) w0 w) : PutT w0 w' B lo t k0 L := by
  obtain ⟨h', k', ha, hl, hd, hF', hf'⟩ := h
  refine ⟨h', k', ha, hl.trans hL, by rw [← hL]; exact hd, fun x hx => ?_, hf.then hf' fun x hxl hx => ?_⟩
  · rcases hF' x hx with h1 | h1
    · exact hF x h1
    · exact .inr (Nat.le_trans hf.size h1)
  · rcases hx with hx | hx
    · exact .inl hx
    · rcases hF x hx with h1 | h1
      · exact .inr h1
      · omega
/-- The root with two parts below. -/
theorem root_up {w : World} {B t pa pb : Nat} {q : Value} (hrow : w.heap[t]? = some (.cells #[q] 61 (0, 0))) (hB : B ≤ w.heap.size) (W : World)
    (hW : W = ((w.alloc (.cells #[.pointer (some ⟨pa, 0, none⟩), .pointer (some ⟨pb, 0, none⟩)] 55)).alloc (.cells #[.slice none 0 0, .slice (some ⟨w.heap.size, 0, none⟩) 2 2, .int .i64 0] 59)).setCell ⟨t, 0, none⟩ (.pointer (some ⟨w.heap.size + 1, 0, none⟩))) :
    W.heap[t]? = some (.cells #[.pointer (some ⟨w.heap.size + 1, 0, none⟩)] 61 (0, 0)) ∧ NodeAt W B (w.heap.size + 1) (.slice none 0 0) (.slice (some ⟨w.heap.size, 0, none⟩) 2 2) [] [pa, pb] 0 ∧ Frm (fun x => x = t) w W := by
  have htl := lt_of_block hrow
  have b1 := (Below.refl w.heap.size w).alloc (Nat.le_refl _) (.cells #[.pointer (some ⟨pa, 0, none⟩), .pointer (some ⟨pb, 0, none⟩)] 55)
  have b2 := b1.alloc (by simp) (.cells #[.slice none 0 0, .slice (some ⟨w.heap.size, 0, none⟩) 2 2, .int .i64 0] 59)
  have r1 := heap_alloc_new w (.cells #[.pointer (some ⟨pa, 0, none⟩), .pointer (some ⟨pb, 0, none⟩)] 55)
  generalize hw1 : w.alloc (.cells #[.pointer (some ⟨pa, 0, none⟩), .pointer (some ⟨pb, 0, none⟩)] 55) = w1 at *
  have hs1 : w1.heap.size = w.heap.size + 1 := by rw [← hw1]; simp
  have r2 := heap_alloc_new w1 (.cells #[.slice none 0 0, .slice (some ⟨w.heap.size, 0, none⟩) 2 2, .int .i64 0] 59)
  have r3 := (((Below.refl _ _).alloc (Nat.le_refl _) (.cells #[.slice none 0 0, .slice (some ⟨w.heap.size, 0, none⟩) 2 2, .int .i64 0] 59) : Below w1.heap.size w1 _).block w.heap.size (by omega)).trans r1
  rw [hs1] at r2
  have r4 := (b2.block t htl).trans hrow
  have hf : Frm (fun x => x = t) w W := by rw [hW]; exact (Frm.of_below (F := fun x => x = t) b2).setCell (p := ⟨t, 0, none⟩) (.inl rfl) _
  generalize hw2 : w1.alloc (.cells #[.slice none 0 0, .slice (some ⟨w.heap.size, 0, none⟩) 2 2, .int .i64 0] 59) = w2 at *
  have q1 : W.heap[w.heap.size + 1]? = some (.cells #[.slice none 0 0, .slice (some ⟨w.heap.size, 0, none⟩) 2 2, .int .i64 0] 59 (0, 0)) := by rw [hW]; exact (Below.heap_setCell _ _ _ _ (by show w.heap.size + 1 ≠ t; omega)).trans r2
  have q2 : W.heap[w.heap.size]? = some (.cells #[.pointer (some ⟨pa, 0, none⟩), .pointer (some ⟨pb, 0, none⟩)] 55 (0, 0)) := by rw [hW]; exact (Below.heap_setCell _ _ _ _ (by show w.heap.size ≠ t; omega)).trans r3
  refine ⟨by rw [hW, heap_setCell_same _ _ _ _ _ _ r4]; rfl, ⟨q1, OwnS.nil _ _ _ _, ⟨rfl, .inr ⟨w.heap.size, 2, _, rfl, hB, q2, Nat.le_refl _, by decide, Nat.le_refl _, rfl⟩⟩, by omega⟩, hf⟩
set_option maxRecDepth 100000 in
set_option maxHeartbeats 2000000 in
theorem putT_core {B lo t : Nat} (hlo : 1 ≤ lo ∧ lo ≤ 4)
    (hmend : ∀ {w : World} {h : Nat} {k : Kid}, TabAt w B lo h t k → h ≤ 950000 → B ≤ w.heap.size → Calls Try.prog 37 #[.pointer (some ⟨t, 0, none⟩)] w fun e w' => (∃ v, e = .returned v) ∧ MendOk w w' B lo t k)
    {w : World} {h : Nat} {k : Kid} (a : TabAt w B lo h t k) (hh : h + 1 ≤ 2 + halvesN k.L.length) (hm : k.L.length < 900000) (hB : B ≤ w.heap.size) (key v : Int) :
    Calls Try.prog 14 #[.pointer (some ⟨t, 0, none⟩), .int .i64 key, .int .i64 v] w fun e w' => e = .returned (.tuple #[.int .i64 ((getL k.L key).getD 0), .bool (getL k.L key).isSome]) ∧ PutT w w' B lo t k (insL k.L key v) := by
  have hh2 : h ≤ 940000 := by have := halvesN_le k.L.length; omega
  have c1 := a.cell
  have HM := @hmend
  have HA := Lib.hid a
  have HP := Lib.hid (put_any hlo h a.tree (a.pos.imp id (by omega)) a.e8 a.srt (by omega) hB key v)
  obtain ⟨r, hr⟩ : ∃ r, r = getL k.L key := ⟨_, rfl⟩
  obtain ⟨L', hL'⟩ : ∃ L', L' = insL k.L key v := ⟨_, rfl⟩
  rw [← hr] at HP ⊢
  have HL' := Lib.hid hL'
  rw [← hL']
  have hlen := (insL_len a.srt key v).2
  rw [← hL'] at hlen
  have hsrt := insL_sorted a.srt key v
  rw [← hL'] at hsrt
  have HS := Lib.hid hsrt
  have htF := Lib.hid a.no
  have htl : t < w.heap.size := lt_of_block a.row
  clear hmend hr hL' hsrt a
  go_enter Try.func14, Try.ntmps14
  go_wp2_with fail
  refine HP.out.mono ?_
  rintro e w1 ⟨rfl, k1, hp1, ht1, hl1, he1, he2, hF1, hf1⟩
  rw [← HL'.out] at hl1
  have c2 := (hf1.cell (p := ⟨t, 0, none⟩) (by exact htl) htF.out).trans c1
  have ht1F : ¬ k1.F t := fun hx => by rcases hF1 t hx with h1 | h1; exact htF.out h1; omega
  have hrow1 := (hf1.block t htl htF.out).trans HA.out.row
  rw [← hp1] at c2 hrow1
  have HT1 := Lib.hid (And.intro ht1 (And.intro he1 he2))
  have HF1 := Lib.hid (And.intro hF1 hf1)
  have HR1 := Lib.hid (And.intro hrow1 ht1F)
  have HL1 := Lib.hid hl1
  have hsz1 : w.heap.size ≤ w1.heap.size := hf1.size
  have HP1 := Lib.hid hp1
  clear ht1 he1 he2 hF1 hf1 hrow1 ht1F hl1 hp1
  by_cases h9 : k1.e ≤ 8
  · have HSN := Lib.hid (split_no_tree HT1.out.1 h9)
    have ha1 : TabAt w1 B lo h t k1 := ⟨HR1.out.1, HT1.out.1, HR1.out.2, HA.out.bt, h9, HA.out.pos.imp id fun h => Nat.le_trans h HT1.out.2.1, by rw [HL1.out]; exact HS.out, by rw [HL1.out]; omega⟩
    have HME := Lib.hid (HM ha1 (by omega) (by omega))
    clear ha1
    go_wp2_with fail
    refine HSN.out.mono ?_
    rintro e w2 ⟨rfl, rfl⟩
    go_wp2_with fail
    refine HME.out.mono ?_
    rintro e w3 ⟨⟨u, rfl⟩, hmo⟩
    have HMO := Lib.hid hmo
    clear hmo
    go_wp2_with fail
    go_ret2
    exact ⟨rfl, HMO.out.put HL1.out HF1.out.1 (HF1.out.2.weak fun x _ hx => .inr hx)⟩
  · have he9 : k1.e = 9 := by have := HA.out.e8; have := HT1.out.2.2; omega
    have HSN := Lib.hid (split_tree hlo.2 HT1.out.1 he9 (Nat.le_trans hB hsz1) (by rw [HL1.out]; omega))
    go_wp2_with fail
    refine HSN.out.mono ?_
    rintro e w2 ⟨a, b, rfl, hap, hat, hbt, hab, hae, hbe, haF, hbF, hdis, hf2⟩
    have htl1 : t < w1.heap.size := by omega
    have c3 := (hf2.cell (p := ⟨t, 0, none⟩) (by exact htl1) HR1.out.2).trans c2
    have hrow2 := (hf2.block t htl1 HR1.out.2).trans HR1.out.1
    have hfr := free_row hrow2 0
    rw [← hap] at c3 hrow2
    have HAP := Lib.hid hap
    have HTA := Lib.hid (And.intro hat (And.intro hbt (And.intro hab (And.intro hae (And.intro hbe hdis)))))
    have HFF := Lib.hid (And.intro haF (And.intro hbF hf2))
    have HRW := Lib.hid hrow2
    clear hap hat hbt hab hae hbe haF hbF hdis hf2 hrow2
    have htl2 : t < w2.heap.size := lt_of_block HRW.out
    have hfz : ((w2.alloc (.cells #[.pointer (some ⟨a.p, 0, none⟩), .pointer (some ⟨b.p, 0, none⟩)] 55)).alloc (.cells #[.slice none 0 0, .slice (some ⟨w2.heap.size, 0, none⟩) 2 2, .int .i64 0] 59)).frozen? ⟨t, 0, none⟩ = false :=
      free_row ((((Below.refl w2.heap.size w2).alloc (Nat.le_refl _) _).alloc (by simp) _).block t htl2 |>.trans HRW.out) 0
    have HUP := Lib.hid (root_up (pa := a.p) (pb := b.p) HRW.out (show B ≤ w2.heap.size by have := HFF.out.2.2.size; omega) _ rfl)
    rw [World.setCell_alloc_past _ _ _ _ (by simp; omega), World.setCell_alloc_past _ _ _ _ htl2] at HUP
    go_wp2_with fail
    generalize World.alloc (World.alloc (World.setCell w2 _ _) _) _ = w3 at *
    obtain ⟨u1, u2, u3⟩ := HUP.out
    obtain ⟨hat, hbt, hab, hae, hbe, hdis⟩ := HTA.out
    obtain ⟨haF, hbF, hf2⟩ := HFF.out
    have ht1l : t < w1.heap.size := Nat.lt_of_lt_of_le htl hsz1
    have hat' : ¬ a.F t := fun hx => HR1.out.2 (haF t hx)
    have hbt' : ¬ b.F t := fun hx => by rcases hbF t hx with h1 | h1; exact HR1.out.2 h1; omega
    have hPn : ∀ x, nodeF (w2.heap.size + 1) (.slice none 0 0) (.slice (some ⟨w2.heap.size, 0, none⟩) 2 2) x → w2.heap.size ≤ x := fun x hx => by
      rcases hx with rfl | hx | hx
      · omega
      · cases hx
      · simp [Value.ownBlock] at hx; omega
    have hno : ∀ x, nodeF (w2.heap.size + 1) (.slice none 0 0) (.slice (some ⟨w2.heap.size, 0, none⟩) 2 2) x → ¬ kidsF [a, b] x := fun x hx ⟨c, hc, hy⟩ => by
      have h1 := hPn x hx
      rcases List.mem_cons.1 hc with rfl | hc
      · have := (hat.lt x hy).1; omega
      · obtain rfl := List.mem_singleton.1 hc
        have := (hbt.lt x hy).1; omega
    have hkL : kidsL [a, b] = L' := by
      rw [← HL1.out, ← hab]; simp [kidsL]
    have HCT := Lib.hid (count_tree (ks := [a, b]) (lo := lo) (h := h) u2 (fun c hc => by
      rcases List.mem_cons.1 hc with rfl | hc
      · exact ⟨hat.frm u3 fun x hx e => hat' (by rw [← e]; exact hx), by have := hlo.2; omega, by omega⟩
      · obtain rfl := List.mem_singleton.1 hc
        exact ⟨hbt.frm u3 fun x hx e => hbt' (by rw [← e]; exact hx), by have := hlo.2; omega, by omega⟩)
      (List.pairwise_cons.2 ⟨fun d hd => by obtain rfl := List.mem_singleton.1 hd; exact hdis, List.pairwise_singleton _ _⟩) hno (by simp) (by rw [hkL]; omega))
    rw [hkL] at HCT
    have hsz3 : w2.heap.size ≤ w3.heap.size := u3.size
    have hsz2 : w1.heap.size ≤ w2.heap.size := hf2.size
    have hkF : ∀ x, kidsF [a, b] x → k.F x ∨ w.heap.size ≤ x := fun x ⟨c, hc, hx⟩ => by
      have h1 : k1.F x ∨ w1.heap.size ≤ x := by
        rcases List.mem_cons.1 hc with rfl | hc
        · exact .inl (haF x hx)
        · obtain rfl := List.mem_singleton.1 hc
          exact hbF x hx
      rcases h1 with h1 | h1
      · exact HF1.out.1 x h1
      · exact .inr (Nat.le_trans hsz1 h1)
    have hf3 : Frm (tabF t k) w w3 := ((HF1.out.2.weak (G := tabF t k) fun x _ hx => .inr hx).then hf2 fun x hxl hx => by
      rcases HF1.out.1 x hx with h1 | h1
      · exact .inr h1
      · omega).then u3 fun x _ hx => .inl hx
    have HF3 := Lib.hid hf3
    have HKF := Lib.hid hkF
    have HPN := Lib.hid hPn
    have HU1 := Lib.hid u1
    have htno : ¬ kidsF [a, b] t := fun ⟨c, hc, hx⟩ => by
      rcases List.mem_cons.1 hc with rfl | hc
      · exact hat' hx
      · obtain rfl := List.mem_singleton.1 hc
        exact hbt' hx
    have HTN := Lib.hid htno
    clear u1 u2 u3 hat hbt hab hae hbe hdis haF hbF hf2 hat' hbt' hPn hno hkL hf3 hkF htno hfz c3
    refine HCT.out.mono ?_
    rintro e w4 ⟨⟨u, rfl⟩, ht4, hf4⟩
    have hrow4 := (hf4.block t (by omega) (by show t ≠ _; omega)).trans HU1.out
    have ha4 : TabAt w4 B lo (h + 1) t ⟨w2.heap.size + 1, 2, L', fun x => nodeF (w2.heap.size + 1) (.slice none 0 0) (.slice (some ⟨w2.heap.size, 0, none⟩) 2 2) x ∨ kidsF [a, b] x⟩ :=
      ⟨hrow4, ht4, fun hx => by
        rcases hx with hx | hx
        · have := HPN.out t hx; omega
        · exact HTN.out hx, HA.out.bt, by show 2 ≤ 8; omega, .inr (Nat.le_refl _), HS.out, by show L'.length ≤ _; omega⟩
    have hsz4 : w3.heap.size ≤ w4.heap.size := hf4.size
    have HME := Lib.hid (HM ha4 (by omega) (by omega))
    have hf5 : Frm (tabF t k) w w4 := HF3.out.then hf4 fun x hxl hx => by omega
    have HF5 := Lib.hid hf5
    clear ha4 hf4 ht4 hrow4 hf5
    go_wp2_with fail
    refine HME.out.mono ?_
    rintro e w5 ⟨⟨u', rfl⟩, hmo⟩
    have HMO := Lib.hid hmo
    clear hmo
    go_wp2_with fail
    go_ret2
    exact ⟨rfl, HMO.out.put rfl (fun x hx => by
      rcases hx with hx | hx
      · have := HPN.out x hx; exact .inr (by omega)
      · exact HKF.out x hx) HF5.out⟩
theorem halvesN_pow : ∀ (m n : Nat), 2 ^ m ≤ n → m + 1 ≤ halvesN n
  | 0, n, h => by rw [halvesN_step n (by omega)]; omega
  | m + 1, n, h => by
    have h1 : 2 ^ m ≤ n / 2 := by rw [Nat.pow_succ] at h; omega
    have := halvesN_pow m (n / 2) h1
    rw [halvesN_step n (by have := Nat.two_pow_pos (m + 1); omega)]
    omega
/-- Where each part has four at least, a table is never too deep. -/
theorem TabAt.flat {w : World} {B h t : Nat} {k : Kid} (a : TabAt w B 4 h t k) : h + 1 ≤ 2 + halvesN k.L.length := by
  rcases a.pos with rfl | hp
  · omega
  · have h1 := a.tree.many
    have h2 : 2 * 4 ^ h ≤ k.L.length := Nat.le_trans (Nat.mul_le_mul_right _ hp) h1
    have h3 : 2 ^ h ≤ 4 ^ h := Nat.pow_le_pow_left (by decide) h
    have h4 : 2 ^ (h + 1) ≤ k.L.length := by rw [Nat.pow_succ]; omega
    have := halvesN_pow (h + 1) _ h4
    omega
set_option maxRecDepth 100000 in
theorem mend_quick {w : World} {B lo h t : Nat} {k : Kid} (hlo : 1 ≤ lo) (a : TabAt w B lo h t k) (hh : h + 1 ≤ 2 + halvesN k.L.length) :
    Calls Try.prog 37 #[.pointer (some ⟨t, 0, none⟩)] w fun e w' => (∃ v, e = .returned v) ∧ w' = w := by
  have hm := a.many
  have hv := halvesN_le k.L.length
  have H1 := Lib.hid (depth_any hlo a (by omega))
  have H2 := Lib.hid (len_any a)
  have H3 := Lib.hid (halves_any k.L.length (by omega) w)
  generalize halvesN k.L.length = r at *
  clear a
  go_enter Try.func37, Try.ntmps37
  go_wp2_with fail
  refine H1.out.mono ?_
  rintro e w1 ⟨rfl, rfl⟩
  go_wp2_with fail
  refine H2.out.mono ?_
  rintro e w1 ⟨rfl, rfl⟩
  go_wp2_with fail
  refine H3.out.mono ?_
  rintro e w1 ⟨rfl, rfl⟩
  go_wp2_with fail
  refine bodyPost_ret (results_none rfl _ _ _) rfl ?_
  exact ⟨⟨_, rfl⟩, rfl⟩
/-- Put on a table whose parts have four at least. -/
theorem putT4 {B t : Nat} {w : World} {h : Nat} {k : Kid} (a : TabAt w B 4 h t k) (hm : k.L.length < 900000) (hB : B ≤ w.heap.size) (key v : Int) :
    Calls Try.prog 14 #[.pointer (some ⟨t, 0, none⟩), .int .i64 key, .int .i64 v] w fun e w' => e = .returned (.tuple #[.int .i64 ((getL k.L key).getD 0), .bool (getL k.L key).isSome]) ∧ PutT w w' B 4 t k (insL k.L key v) :=
  putT_core (by omega) (fun {w h k} a _ _ => (mend_quick (by omega) a a.flat).mono fun e w' ⟨he, hw⟩ => ⟨he, by
    subst hw
    exact ⟨h, k, a, rfl, a.flat, fun x hx => .inl hx, Frm.refl _ _⟩⟩) a a.flat hm hB key v
end Go.Proofs.Ytdgapagpmdfndaa
