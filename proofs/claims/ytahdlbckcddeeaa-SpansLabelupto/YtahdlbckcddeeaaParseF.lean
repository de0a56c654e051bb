/- WALKS OF LAYER 4 (parse), the document's: Check, End. -/
import Derived.Test.YtahdlbckcddeeaaParseE
namespace Go.Proofs.Ytahdlbckcddeeaa
open Go.RowKit
set_option linter.unusedVariables false
def TinyL (L : List Item) : Prop := ∀ k, k < L.length → TinyI (L.getD k default) ∧ LvOk (L.getD k default)
theorem oneP_zero (a b x : Item) : oneP 0 a x = oneP 0 b x := by
  unfold oneP
  rw [if_pos rfl, if_pos rfl]
theorem rone_any (b off len cap : Nat) (L : List Item) (k : Nat) (hl : len = L.length) (hlen : len ≤ 140737488351232) (w : World) (hi : ItemsAt w b off L) (ht : TinyL L) (hk : k < L.length) :
    Calls Try.prog 35 #[.slice (some ⟨b, off, none⟩) len cap, .int .i64 k] w fun e w' => e = .returned (.int .i64 (oneP k (L.getD (k - 1) default) (L.getD k default))) ∧ Below w.heap.size w w' := by
  match k, hk with
  | 0, hk =>
    have h := hi 0 hk
    rw [Nat.zero_mul, Nat.add_zero] at h
    rw [oneP_zero _ (L.getD 0 default)]
    exact rone_first b off len cap _ (by omega) w h (ht 0 hk).1
  | k + 1, hk =>
    rw [Nat.add_sub_cancel]
    exact rone_next b off len cap k _ _ (by omega) w hlen (hi (k + 1) hk) (hi k (by omega)) (ht (k + 1) hk).1 (ht (k + 1) hk).2
set_option maxRecDepth 100000 in
set_option maxHeartbeats 2000000 in
theorem rcheck_some (b off len cap : Nat) (L : List Item) (hl : len = L.length) (h0 : 0 < len) (hlen : len ≤ 140737488351232) (w : World) (hi : ItemsAt w b off L) (ht : TinyL L) :
    Calls Try.prog 26 #[.slice (some ⟨b, off, none⟩) len cap] w fun e w' => e = .returned (.tuple #[.int .i64 (checkFrom L len 0).1, .int .i64 (checkFrom L len 0).2]) ∧ Below w.heap.size w w' := by
  have hz : ((len : Int) == 0) = false := by simp; omega
  have HI := Lib.hid hi
  have HL := Lib.hid hl
  have HT := Lib.hid ht
  clear hi hl ht
  go_enter Try.func26, Try.ntmps26
  go_wp2_with fail
  go_loopw [4, 5] (fun i u wr => ∃ k : Nat, k ≤ len ∧ i = .int .i64 k ∧ Hid (checkFrom L (len - k) k = checkFrom L len 0) ∧ Below w.heap.size w wr) (fun i _ _ => len - (intOf i).toNat)
  case atStart => exact ⟨0, by omega, rfl, Lib.hid rfl, Below.refl _ _⟩
  case round =>
    obtain ⟨k, hk, rfl, HC, hb⟩ := hrel
    by_cases hlt : k < len
    · have hst : Hid (checkFrom L (len - k) k = if oneP k (L.getD (k - 1) default) (L.getD k default) ≠ 0 then ((k : Int), oneP k (L.getD (k - 1) default) (L.getD k default)) else checkFrom L (len - (k + 1)) (k + 1)) := by
        have e : len - k = (len - (k + 1)) + 1 := by omega
        rw [e]; exact Lib.hid rfl
      have HO := Lib.hid (rone_any b off len cap L k HL.out hlen wr (HI.out.below hb) HT.out (by rw [← HL.out]; exact hlt))
      generalize oneP k (L.getD (k - 1) default) (L.getD k default) = q at *
      go_wp2_with fail
      refine HO.out.mono ?_
      rintro e w1 ⟨rfl, hb1⟩
      have hb2 := hb.trans (hb1.mono hb.size)
      clear HO
      by_cases hq : q = 0
      · subst hq
        go_wp2_with fail
        go_roundw
        case rel => exact ⟨k + 1, by omega, by go_num, Lib.hid (by rw [← HC.out, hst.out, if_neg (by decide)]), hb2⟩
        case measure => simp [intOf]; omega
      · have hq' : (q != 0) = true := by simpa using hq
        have HQ := Lib.hid hq
        clear hq
        go_wp2_with fail
        go_ret2
        refine ⟨?_, hb2⟩
        rw [← HC.out, hst.out, if_pos HQ.out]
        rfl
    · obtain rfl : k = len := by omega
      have hf : Hid (checkFrom L k 0 = (0, 0)) := by rw [← HC.out, Nat.sub_self]; exact Lib.hid rfl
      go_wp2_with fail
      go_ret2
      rw [hf.out]
      exact ⟨rfl, hb⟩
set_option maxRecDepth 100000 in
theorem rcheck_none (a : Option Addr) (cap : Nat) (w : World) :
    Calls Try.prog 26 #[.slice a 0 cap] w fun e w' => e = .returned (.tuple #[.int .i64 0, .int .i64 40]) ∧ Below w.heap.size w w' := by
  go_enter Try.func26, Try.ntmps26
  go_wp2_with fail
  go_ret2
  exact ⟨rfl, Below.refl _ _⟩
theorem rcheck_any (a : Option Addr) (len cap : Nat) (L : List Item) (w : World) (h : ItemsSl w a len L) (ht : TinyL L) :
    Calls Try.prog 26 #[.slice a len cap] w fun e w' => e = .returned (.tuple #[.int .i64 (checkP L).1, .int .i64 (checkP L).2]) ∧ Below w.heap.size w w' := by
  obtain ⟨h1, h2, h3⟩ := h
  by_cases h0 : 0 < len
  · obtain ⟨b, off, rfl, hi⟩ := h3 h0
    have e : checkP L = checkFrom L len 0 := by
      unfold checkP
      rw [if_neg (by intro h; rw [h] at h1; simp at h1; omega), h1]
    rw [e]
    exact rcheck_some b off len cap L h1 h0 h2 w hi ht
  · obtain rfl : len = 0 := by omega
    have e : L = [] := List.eq_nil_of_length_eq_zero h1.symm
    subst e
    unfold checkP
    rw [if_pos rfl]
    exact rcheck_none a cap w
def endFrom (L : List Item) (k : Nat) : Nat → Nat → Nat
  | 0, n => n
  | m + 1, n => if (L.getD n default).level ≤ (L.getD k default).level then n else endFrom L k m (n + 1)
/-- The first one behind number k that does not lie in it. -/
def endP (L : List Item) (k : Nat) : Nat := endFrom L k (L.length - (k + 1)) (k + 1)
set_option maxRecDepth 100000 in
set_option maxHeartbeats 1000000 in
theorem rend_any (b off len cap : Nat) (L : List Item) (k : Nat) (hl : len = L.length) (hlen : len ≤ 140737488351232) (w : World) (hi : ItemsAt w b off L) (hk : k < len) :
    Calls Try.prog 28 #[.slice (some ⟨b, off, none⟩) len cap, .int .i64 k] w fun e w' => e = .returned (.int .i64 (endP L k : Nat)) ∧ ∃ m, w' = w.drewN m := by
  have hE : Hid (endP L k = endFrom L k (len - (k + 1)) (k + 1)) := by unfold endP; rw [← hl]; exact Lib.hid rfl
  have hck := (hi k (by rw [← hl]; exact hk)).level
  have HI := Lib.hid hi
  have HL := Lib.hid hl
  clear hi hl
  generalize endP L k = E at *
  obtain ⟨lk, hlk⟩ : ∃ lk, lk = (L.getD k default).level := ⟨_, rfl⟩
  rw [← hlk] at hck
  have HLK := Lib.hid hlk
  clear hlk
  have z1 : (0 : Int) ≤ (k : Int) := by omega
  have z2 : (k : Int) < (len : Int) := by omega
  go_enter Try.func28, Try.ntmps28
  go_wp2_with fail
  go_loopw [5] (fun i wr => ∃ n : Nat, k < n ∧ n ≤ len ∧ i = .int .i64 n ∧ Hid (E = endFrom L k (len - n) n) ∧ ∃ m, wr = w.drewN m) (fun i _ => len - (intOf i).toNat)
  case atStart => exact ⟨k + 1, by omega, by omega, by go_num, hE, 0, rfl⟩
  case round =>
    obtain ⟨n, hkn, hn, rfl, HE, m, hm⟩ := hrel
    have hcw : wr.cell? ⟨b, off + k * 5, none⟩ = some (.int .i64 lk) := by rw [hm]; exact hck
    have HMM := Lib.hid hm
    by_cases hlt : n < len
    · have hcn : wr.cell? ⟨b, off + n * 5, none⟩ = some (.int .i64 (L.getD n default).level) := by rw [hm]; exact (HI.out n (by rw [← HL.out]; exact hlt)).level
      obtain ⟨ln, hln⟩ : ∃ ln, ln = (L.getD n default).level := ⟨_, rfl⟩
      rw [← hln] at hcn
      have hst : Hid (E = if ln ≤ lk then n else endFrom L k (len - (n + 1)) (n + 1)) := by
        rw [HE.out, hln, HLK.out]
        have e : len - n = (len - (n + 1)) + 1 := by omega
        rw [e]; exact Lib.hid rfl
      clear hln hm
      have z3 : (0 : Int) ≤ (n : Int) := by omega
      have z4 : (n : Int) < (len : Int) := by omega
      by_cases hc : ln ≤ lk
      · have hE2 : Hid (E = n) := by rw [hst.out, if_pos hc]; exact Lib.hid rfl
        clear hst
        go_wp2_with fail
        go_quiet (fail)
        go_wp2_with fail
        go_ret
        rw [hE2.out, HMM.out]
        exact ⟨rfl, _, World.drewN_drewN _ _ _⟩
      · have hE2 : Hid (E = endFrom L k (len - (n + 1)) (n + 1)) := by rw [hst.out, if_neg hc]; exact Lib.hid rfl
        clear hst
        go_wp2_with fail
        have hc2 : ¬ ln ≤ lk := by omega
        go_quiet (fail)
        go_wp2_with fail
        go_roundw
        case rel => exact ⟨n + 1, by omega, by omega, by go_num, hE2, _, by rw [HMM.out]; exact World.drewN_drewN _ _ _⟩
        case measure => simp [intOf]; omega
    · obtain rfl : n = len := by omega
      have hE2 : Hid (E = n) := by rw [HE.out, Nat.sub_self]; exact Lib.hid rfl
      clear hm
      go_wp2_with fail
      go_ret
      rw [hE2.out]
      exact ⟨rfl, m, HMM.out⟩
end Go.Proofs.Ytahdlbckcddeeaa
