/- LAYER 13 (tabula): first, last, sub. -/
import Derived.Test.YtdgapagpmdfndaaTabA
import Derived.Deep.QuietTactic
import Derived.BigQuiet
import Derived.IntWalk
import Derived.WalkSmall
import Derived.Deep.RegionHeld3
namespace Go.Proofs.Ytdgapagpmdfndaa
open Go.RowKit
set_option linter.unusedVariables false
/-- The first of which something is true. -/
def IsFirst (n : Nat) (pred : Nat → Bool) (t : Nat) : Prop := t ≤ n ∧ (∀ i, i < t → pred i = false) ∧ (∀ i, t ≤ i → i < n → pred i = true)
set_option maxRecDepth 100000 in
set_option maxHeartbeats 1000000 in
theorem firstP_any (fn : Nat) (cap : Value) (B : Nat) (v : Value) (subs : List Nat) (w : World) (ho : OwnS w B 55 1 v subs.length (ptrCells subs)) (hn : subs.length ≤ 1000000) (pred : Nat → Bool)
    (hent : ∀ args w, (callFunc fn args).run Try.prog w = .ok (.enter fn args) w)
    (hcl : ∀ w' i, Below w.heap.size w w' → i < subs.length → Calls Try.prog fn #[.pointer (some ⟨subs.getD i default, 0, none⟩), cap] w' fun e w2 => e = .returned (.bool (pred i)) ∧ Below w'.heap.size w' w2)
    (hmono : ∀ i j, i ≤ j → j < subs.length → pred i = true → pred j = true) :
    Calls Try.prog 53 #[v, .func (.func fn) #[] #[cap]] w fun e w' => (∃ t : Nat, e = .returned (.int .i64 (t : Int)) ∧ IsFirst subs.length pred t) ∧ Below w.heap.size w w' := by
  obtain ⟨n, hnn⟩ : ∃ n, n = subs.length := ⟨_, rfl⟩
  have HO := Lib.hid ho
  obtain ⟨a, c, rfl⟩ := ho.len
  have HCL := Lib.hid hcl
  have HM := Lib.hid hmono
  have HN := Lib.hid hnn
  rw [← hnn] at HO hn HCL HM ⊢
  clear ho hcl hmono hnn
  go_enter Try.func53, Try.ntmps53
  go_wp2_with fail
  go_loopw [5, 6] (fun lo hi wr => ∃ l h : Nat, l ≤ h ∧ h ≤ n ∧ lo = .int .i64 (l : Int) ∧ hi = .int .i64 (h : Int) ∧ Hid ((∀ i, i < l → pred i = false) ∧ (∀ i, h ≤ i → i < n → pred i = true)) ∧ Below w.heap.size w wr) (fun lo hi _ => (intOf hi).toNat - (intOf lo).toNat)
  case atStart => exact ⟨0, n, Nat.zero_le _, Nat.le_refl _, rfl, rfl, Lib.hid ⟨fun i hi => by omega, fun i h1 h2 => by omega⟩, Below.refl _ _⟩
  case round =>
    obtain ⟨l, h, hlh, hhn, rfl, rfl, HI, hb⟩ := hrel
    by_cases hlt : l < h
    · obtain ⟨g, cp, hv, _, hg, _⟩ := OwnS.shape HO.out (by omega)
      cases hv
      have hm : ((l : Int) + (h : Int)) / 2 = (((l + h) / 2 : Nat) : Int) := by omega
      obtain ⟨m, hmd⟩ : ∃ m, m = (l + h) / 2 := ⟨_, rfl⟩
      rw [← hmd] at hm
      have hml : l ≤ m ∧ m < h := by omega
      have hmn : m < n := by omega
      have d := (HO.out.below hb).cellAt m (by omega)
      rw [ptrCells_at subs m (by rw [← HN.out]; exact hmn)] at d
      have HC := Lib.hid (HCL.out wr m hb hmn)
      have z1 : IntKind.i64.wrap ((l : Int) + (h : Int)) = (l : Int) + (h : Int) := by rw [IntKind.wrap_i64]; omega
      have z2 : (m : Int) < (n : Int) := by omega
      have HMD := Lib.hid hmd
      clear hmd
      generalize subs.getD m default = q at *
      cases hp : pred m with
      | true =>
        rw [hp] at HC
        have HP := Lib.hid hp
        clear hp
        go_wp2_with fail
        refine HC.out.mono ?_
        rintro e w2 ⟨rfl, hb2⟩
        go_wp2_with fail
        go_roundw
        case rel => exact ⟨l, m, hml.1, by omega, rfl, rfl, Lib.hid ⟨HI.out.1, fun i h1 h2 => HM.out m i h1 h2 HP.out⟩, hb.trans (hb2.mono hb.size)⟩
        case measure => simp [intOf]; omega
      | false =>
        rw [hp] at HC
        have HP := Lib.hid hp
        clear hp
        go_wp2_with fail
        refine HC.out.mono ?_
        rintro e w2 ⟨rfl, hb2⟩
        go_wp2_with fail
        go_roundw
        case rel =>
          refine ⟨m + 1, h, by omega, by omega, by go_num, rfl, Lib.hid ⟨fun i hi => ?_, HI.out.2⟩, hb.trans (hb2.mono hb.size)⟩
          cases hpi : pred i with
          | false => rfl
          | true =>
            have := HM.out i m (by omega) hmn hpi
            rw [HP.out] at this
            cases this
        case measure => simp [intOf]; omega
    · obtain rfl : l = h := by omega
      go_wp2_with fail
      go_ret
      exact ⟨⟨l, rfl, hhn, HI.out⟩, hb⟩
set_option maxRecDepth 100000 in
set_option maxHeartbeats 1000000 in
theorem firstR_any (fn : Nat) (cap : Value) (B : Nat) (v : Value) (subs : List Row) (w : World) (ho : OwnS w B 68 2 v subs.length (rowCells subs)) (hn : subs.length ≤ 1000000) (pred : Nat → Bool)
    (hent : ∀ args w, (callFunc fn args).run Try.prog w = .ok (.enter fn args) w)
    (hcl : ∀ w' i, Below w.heap.size w w' → i < subs.length → Calls Try.prog fn #[.agg #[.int .i64 (subs.getD i default).1, .int .i64 (subs.getD i default).2], cap] w' fun e w2 => e = .returned (.bool (pred i)) ∧ Below w'.heap.size w' w2)
    (hmono : ∀ i j, i ≤ j → j < subs.length → pred i = true → pred j = true) :
    Calls Try.prog 41 #[v, .func (.func fn) #[] #[cap]] w fun e w' => (∃ t : Nat, e = .returned (.int .i64 (t : Int)) ∧ IsFirst subs.length pred t) ∧ Below w.heap.size w w' := by
  obtain ⟨n, hnn⟩ : ∃ n, n = subs.length := ⟨_, rfl⟩
  have HO := Lib.hid ho
  obtain ⟨a, c, rfl⟩ := ho.len
  have HCL := Lib.hid hcl
  have HM := Lib.hid hmono
  have HN := Lib.hid hnn
  rw [← hnn] at HO hn HCL HM ⊢
  clear ho hcl hmono hnn
  go_enter Try.func41, Try.ntmps41
  go_wp2_with fail
  go_loopw [5, 6] (fun lo hi wr => ∃ l h : Nat, l ≤ h ∧ h ≤ n ∧ lo = .int .i64 (l : Int) ∧ hi = .int .i64 (h : Int) ∧ Hid ((∀ i, i < l → pred i = false) ∧ (∀ i, h ≤ i → i < n → pred i = true)) ∧ Below w.heap.size w wr) (fun lo hi _ => (intOf hi).toNat - (intOf lo).toNat)
  case atStart => exact ⟨0, n, Nat.zero_le _, Nat.le_refl _, rfl, rfl, Lib.hid ⟨fun i hi => by omega, fun i h1 h2 => by omega⟩, Below.refl _ _⟩
  case round =>
    obtain ⟨l, h, hlh, hhn, rfl, rfl, HI, hb⟩ := hrel
    by_cases hlt : l < h
    · obtain ⟨g, cp, hv, _, hg, _⟩ := OwnS.shape HO.out (by omega)
      cases hv
      have hm : ((l : Int) + (h : Int)) / 2 = (((l + h) / 2 : Nat) : Int) := by omega
      obtain ⟨m, hmd⟩ : ∃ m, m = (l + h) / 2 := ⟨_, rfl⟩
      rw [← hmd] at hm
      have hml : l ≤ m ∧ m < h := by omega
      have hmn : m < n := by omega
      have d1 := (HO.out.below hb).cellAt (m * 2) (by omega)
      have d2 := (HO.out.below hb).cellAt (m * 2 + 1) (by omega)
      rw [(rowCells_at subs m (by rw [← HN.out]; exact hmn)).1] at d1
      rw [(rowCells_at subs m (by rw [← HN.out]; exact hmn)).2] at d2
      have HC := Lib.hid (HCL.out wr m hb hmn)
      have z1 : IntKind.i64.wrap ((l : Int) + (h : Int)) = (l : Int) + (h : Int) := by rw [IntKind.wrap_i64]; omega
      have z2 : (m : Int) < (n : Int) := by omega
      have HMD := Lib.hid hmd
      clear hmd
      generalize subs.getD m default = q at *
      cases hp : pred m with
      | true =>
        rw [hp] at HC
        have HP := Lib.hid hp
        clear hp
        go_wp2_with fail
        refine HC.out.mono ?_
        rintro e w2 ⟨rfl, hb2⟩
        go_wp2_with fail
        go_roundw
        case rel => exact ⟨l, m, hml.1, by omega, rfl, rfl, Lib.hid ⟨HI.out.1, fun i h1 h2 => HM.out m i h1 h2 HP.out⟩, hb.trans (hb2.mono hb.size)⟩
        case measure => simp [intOf]; omega
      | false =>
        rw [hp] at HC
        have HP := Lib.hid hp
        clear hp
        go_wp2_with fail
        refine HC.out.mono ?_
        rintro e w2 ⟨rfl, hb2⟩
        go_wp2_with fail
        go_roundw
        case rel =>
          refine ⟨m + 1, h, by omega, by omega, by go_num, rfl, Lib.hid ⟨fun i hi => ?_, HI.out.2⟩, hb.trans (hb2.mono hb.size)⟩
          cases hpi : pred i with
          | false => rfl
          | true =>
            have := HM.out i m (by omega) hmn hpi
            rw [HP.out] at this
            cases this
        case measure => simp [intOf]; omega
    · obtain rfl : l = h := by omega
      go_wp2_with fail
      go_ret
      exact ⟨⟨l, rfl, hhn, HI.out⟩, hb⟩
theorem getD_mem {α : Type} [Inhabited α] (l : List α) (i : Nat) (h : i < l.length) : l.getD i default ∈ l := by
  have : l.getD i default = l[i] := by simp [h]
  rw [this]
  exact List.getElem_mem h
def blockOf (v : Value) : Nat := match v with | .pointer (some a) => a.block | _ => 0
/-- How high a part stands: by its first part below, and so on. -/
def hgt (w : World) : Nat → Nat → Nat
  | 0, _ => 0
  | f + 1, p => match w.cell? ⟨p, 1, none⟩ with
    | some (.slice (some a) n _) => if n = 0 then 0 else (match w.cell? a with | some v => hgt w f (blockOf v) + 1 | _ => 0)
    | _ => 0
theorem hgt_of {w : World} {B lo : Nat} (hlo : 1 ≤ lo) : ∀ {h : Nat} {k : Kid} (f : Nat), TreeAt w B lo h k → 1 ≤ k.e → h ≤ f → hgt w f k.p = h
  | 0, k, f, ⟨rv, sv, hn, _, _⟩, _, _ => by
    cases f with
    | zero => rfl
    | succ f =>
      rw [hgt, hn.cells.2.1]
      rcases hn.ss.2 with ⟨rfl, _⟩ | ⟨g, cap, cur, rfl, _⟩
      · rfl
      · rfl
  | h + 1, k, f, ⟨rv, sv, ks, hn, he, _, _, hc, _⟩, h1, hf => by
    cases f with
    | zero => omega
    | succ f =>
      match ks, he, hn, hc with
      | [], he, _, _ => simp at he; omega
      | c :: r, _, hn, hc =>
        rw [hgt, hn.cells.2.1]
        obtain ⟨g, cap, rfl, _⟩ := OwnS.shape hn.ss (by simp [kidsP])
        have d := hn.ss.cellAt 0 (by simp [kidsP])
        have e : (ptrCells (kidsP (c :: r)))[0]? = some (.pointer (some ⟨c.p, 0, none⟩)) := rfl
        rw [e] at d
        simp only
        rw [if_neg (by simp [kidsP]), d]
        simp only [blockOf]
        rw [hgt_of hlo f (hc c (by simp)).1 (Nat.le_trans hlo (hc c (by simp)).2.1) (by omega)]
/-- The last row's key. -/
def lastK (l : List Row) : Int := (l.getD (l.length - 1) default).1
theorem getD_app_r {α : Type} [Inhabited α] (l r : List α) (i : Nat) (h : l.length ≤ i) : (l ++ r).getD i default = r.getD (i - l.length) default := by
  rw [List.getD_eq_getElem?_getD, List.getElem?_append_right h, ← List.getD_eq_getElem?_getD]
theorem lastK_append (l r : List Row) (h : r ≠ []) : lastK (l ++ r) = lastK r := by
  have : 0 < r.length := by
    cases r with
    | nil => exact absurd rfl h
    | cons a r => simp
  unfold lastK
  rw [List.length_append, getD_app_r _ _ _ (by omega), show l.length + r.length - 1 - l.length = r.length - 1 by omega]
theorem kids_split (ks : List Kid) (i : Nat) (h : i < ks.length) : ks = ks.take i ++ ks.getD i default :: ks.drop (i + 1) := by
  have e : ks.getD i default = ks[i] := by simp [h]
  rw [e, ← List.drop_eq_getElem_cons h, List.take_append_drop]
theorem kidsL_append (a b : List Kid) : kidsL (a ++ b) = kidsL a ++ kidsL b := by simp [kidsL]
theorem kidsP_append (a b : List Kid) : kidsP (a ++ b) = kidsP a ++ kidsP b := by simp [kidsP]
theorem kidsP_len (ks : List Kid) : (kidsP ks).length = ks.length := by simp [kidsP]
theorem kidsP_at (ks : List Kid) (i : Nat) (h : i < ks.length) : (kidsP ks).getD i default = (ks.getD i default).p := by simp [kidsP, h]
theorem lastK_kids (ks : List Kid) (h : 0 < ks.length) (hne : (ks.getD (ks.length - 1) default).L ≠ []) : lastK (kidsL ks) = lastK (ks.getD (ks.length - 1) default).L := by
  have e := kids_split ks (ks.length - 1) (by omega)
  have e2 : ks.drop (ks.length - 1 + 1) = [] := List.drop_of_length_le (by omega)
  rw [e2] at e
  generalize ks.getD (ks.length - 1) default = c at *
  generalize ks.take (ks.length - 1) = a at *
  rw [e, kidsL_append]
  have e3 : kidsL [c] = c.L := by simp [kidsL]
  rw [e3, lastK_append _ _ hne]
set_option maxRecDepth 100000 in
set_option maxHeartbeats 2000000 in
theorem last_any {w : World} {B lo h : Nat} {k : Kid} (hlo : 1 ≤ lo) (t : TreeAt w B lo h k) (h1 : 1 ≤ k.e) (he : k.e ≤ 1000) : Calls Try.prog 55 #[.pointer (some ⟨k.p, 0, none⟩)] w fun e w' => e = .returned (.int .i64 (lastK k.L)) ∧ Below w.heap.size w w' := by
  obtain ⟨key, hkey⟩ : ∃ key, key = lastK k.L := ⟨_, rfl⟩
  rw [← hkey]
  have HT := Lib.hid (And.intro t (And.intro h1 (And.intro he hkey)))
  clear t h1 he hkey
  go_enter Try.func55, Try.ntmps55
  go_wp2_with fail
  go_loopw [0] (fun p wr => ∃ (d : Nat) (c : Kid), p = .pointer (some ⟨c.p, 0, none⟩) ∧ d ≤ h ∧ Hid (TreeAt w B lo d c ∧ 1 ≤ c.e ∧ c.e ≤ 1000 ∧ key = lastK c.L) ∧ Below w.heap.size w wr) (fun p _ => hgt w h (blockOf p))
  case atStart => exact ⟨h, k, rfl, Nat.le_refl _, HT, Below.refl _ _⟩
  case round =>
    obtain ⟨d, c, rfl, hd, HC, hb⟩ := hrel
    obtain ⟨t, c1, c2, ck⟩ := HC.out
    have hm := hgt_of hlo h t c1 hd
    have HM := Lib.hid hm
    clear hm
    cases d with
    | zero =>
      obtain ⟨rv, sv, hn, he, _⟩ := t
      have hn' := hn.keep fun x hx => hb.block x (hn.lt x hx).1
      obtain ⟨a0, a1, a2⟩ := hn'.cells
      obtain ⟨sa, sc, rfl⟩ := hn'.ss.len
      obtain ⟨g, cap, rfl, _, hg, _⟩ := hn'.rs.shape (by omega)
      obtain ⟨n, hnn⟩ : ∃ n, c.L.length = n + 1 := ⟨c.L.length - 1, by omega⟩
      have d1 := hn'.rs.cellAt (n * 2) (by omega)
      rw [(rowCells_at c.L n (by omega)).1] at d1
      have ek : key = (c.L.getD n default).1 := by rw [ck]; unfold lastK; rw [hnn]; rfl
      rw [← ek] at d1
      rw [hnn] at a0
      have z1 : IntKind.i64.wrap (n : Int) = (n : Int) := by rw [IntKind.wrap_i64]; omega
      have z2 : (0 : Int) ≤ (n : Int) := by omega
      have z3 : (n : Int) < ((n + 1 : Nat) : Int) := by omega
      have a1 : wr.cell? ⟨c.p, 1, none⟩ = some (.slice sa 0 sc) := a1
      clear hn hn' ck ek hnn he
      go_wp2_with fail
      go_quiet (fail)
      go_wp2_with fail
      go_ret
      exact ⟨rfl, below_drewN hb _⟩
    | succ d =>
      obtain ⟨rv, sv, ks, hn, he, hL, _, hc, _⟩ := t
      have hn' := hn.keep fun x hx => hb.block x (hn.lt x hx).1
      obtain ⟨a0, a1, a2⟩ := hn'.cells
      obtain ⟨n, hnn⟩ : ∃ n, ks.length = n + 1 := ⟨ks.length - 1, by omega⟩
      have hss := hn'.ss
      rw [kidsP_len, hnn] at hss
      obtain ⟨g, cap, rfl, _, hg, _⟩ := hss.shape (by omega)
      have d1 := hss.cellAt n (by omega)
      rw [ptrCells_at _ n (by rw [kidsP_len]; omega), kidsP_at _ _ (by omega)] at d1
      obtain ⟨c', hc'⟩ : ∃ c', c' = ks.getD n default := ⟨_, rfl⟩
      have hmem : c' ∈ ks := by rw [hc']; exact getD_mem _ _ (by omega)
      rw [← hc'] at d1
      have hcc := hc c' hmem
      have hne := TreeAt.pos hlo hcc.1 (Nat.le_trans hlo hcc.2.1)
      have ek : key = lastK c'.L := by
        rw [ck, hL, lastK_kids ks (by omega) (by rw [hnn]; show (ks.getD n default).L ≠ []; rw [← hc']; exact hne), hnn]
        show lastK (ks.getD n default).L = _
        rw [← hc']
      have h8 : c'.e ≤ 1000 := by have := hcc.2.2; omega
      have HC2 := Lib.hid (And.intro hcc.1 (And.intro (Nat.le_trans hlo hcc.2.1) (And.intro h8 ek)))
      have z1 : IntKind.i64.wrap (n : Int) = (n : Int) := by rw [IntKind.wrap_i64]; omega
      have z2 : (0 : Int) ≤ (n : Int) := by omega
      have z3 : (n : Int) < ((n + 1 : Nat) : Int) := by omega
      have hm2 := Lib.hid (hgt_of hlo h HC2.out.1 HC2.out.2.1 (by omega))
      clear hn hn' ck ek hnn he hcc hc hL hc' hne hmem hss
      go_wp2_with fail
      go_quiet (fail)
      go_wp2_with fail
      go_roundw
      case rel => exact ⟨d, c', rfl, by omega, HC2, below_drewN hb _⟩
      case measure => 
        show hgt w h c'.p < hgt w h c.p
        rw [hm2.out, HM.out]
        exact Nat.lt_succ_self _
end Go.Proofs.Ytdgapagpmdfndaa
