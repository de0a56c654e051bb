/- WALKS OF LAYER 14 (spans): part and scaled. -/
import Derived.Test.YtahdlbckcddeeaaSpansC
import Derived.Test.YtahdlbckcddeeaaSpansPlainE
import Derived.Laws.BitsLemmas
namespace Go.Proofs.Ytahdlbckcddeeaa
open Go.RowKit
set_option linter.unusedVariables false
set_option maxRecDepth 100000 in
set_option maxHeartbeats 1000000 in
theorem spart_any (low wide k n : Int) (h1 : 0 ≤ low) (h2 : 0 < wide) (h3 : low + wide ≤ 4611686018427387904) (h4 : 1 ≤ k) (h5 : k < n) (h6 : n ≤ 4097) (w : World) :
    Calls Try.prog 31 #[.int .i64 low, .int .i64 wide, .int .i64 k, .int .i64 n] w fun e w' => e = .returned (.int .i64 (low + wide * k / n)) ∧ Below w.heap.size w w' := by
  have hn0 : n ≠ 0 := by omega
  have hn1 : n ≠ -1 := by omega
  go_enter Try.func31, Try.ntmps31
  go_wp2_with fail
  go_quiet (fail)
  go_wp2_with fail
  go_ret
  refine ⟨?_, below_drewN (Below.refl _ _) _⟩
  obtain ⟨a1, a2⟩ := part_left wide k n h2 h4 h5
  obtain ⟨b1, b2⟩ := part_right wide k n (by omega) h5 h6
  obtain ⟨c1, c2⟩ := part_le wide k n (by omega) (by omega) h5
  have e := mul_div_parts wide k n (by omega)
  have d1 : 0 ≤ wide % n * k / n := Int.ediv_nonneg b1 (by omega)
  generalize wide / n * k = A at *
  generalize hB : wide % n * k = B at *
  rw [IntWalk.wrap64_in A (by omega), IntWalk.wrap64_in B (by omega), Int.tdiv_eq_ediv_of_nonneg b1]
  generalize B / n = C at *
  generalize wide * k / n = D at *
  rw [IntWalk.wrap64_in C (by omega), IntWalk.wrap64_in (low + A) (by omega), IntWalk.wrap64_in _ (by omega)]
  rw [e, Int.add_assoc]
  rfl
theorem and_one64 (n : Int) (h0 : 0 ≤ n) (h1 : n ≤ 4611686018427387904) : bits BinOp.and IntKind.i64 n 1 = n % 2 := by
  have h := bits_mask .i64 63 (by decide) (fun n h0 h1 => by rw [IntKind.wrap_i64]; omega) 1 (by decide) n h0 (by omega)
  have e : ((2 : Int) ^ 1 - 1) = 1 := by decide
  rw [e] at h
  rw [h]
  omega
set_option maxRecDepth 100000 in
set_option maxHeartbeats 1000000 in
theorem scaled_any (wide k n : Int) (h1 : 0 ≤ wide) (h2 : wide ≤ 4611686018427387904) (h4 : 0 ≤ k) (h5 : k < n) (h6 : n ≤ 4097) (w : World) :
    Calls Try.prog 32 #[.int .i64 wide, .int .i64 k, .int .i64 n] w fun e w' => e = .returned (.int .i64 (wide * k / n)) ∧ w' = w := by
  go_enter Try.func32, Try.ntmps32
  go_wp2_with fail
  go_loopw [7, 8, 9] (fun a b c wr => ∃ (q r : Int) (i : Nat), i ≤ 63 ∧ a = .int .i64 q ∧ b = .int .i64 r ∧ c = .int .i64 ((i : Int) - 1) ∧ q * n + r = wide / 2 ^ i * k ∧ 0 ≤ r ∧ r < n ∧ 0 ≤ q ∧ wr = w) (fun _ _ c _ => (intOf c + 1).toNat)
  case atStart => exact ⟨0, 0, 63, by omega, rfl, rfl, rfl, by rw [pow_63 wide h1 h2]; simp, by omega, by omega, by omega, rfl⟩
  case round =>
    obtain ⟨q, r, i, hi, rfl, rfl, rfl, he, hr0, hr1, hq0, rfl⟩ := hrel
    by_cases h0 : 0 < i
    · obtain ⟨p1, p2⟩ := pow_le wide i h1
      have hq := bits_q _ _ _ _ _ p1 h5 (by omega) hr0 he
      obtain ⟨p3, p4⟩ := pow_le wide (i - 1) h1
      have hs := bits_step wide k n q r i h0 he
      have hbb := and_one64 _ p3 (by omega)
      have m1 : 0 ≤ wide / 2 ^ (i - 1) % 2 * k ∧ wide / 2 ^ (i - 1) % 2 * k ≤ k := by
        have : wide / 2 ^ (i - 1) % 2 = 0 ∨ wide / 2 ^ (i - 1) % 2 = 1 := by omega
        rcases this with h | h <;> rw [h] <;> omega
      have hq2 := bits_q _ _ _ (2 * q) (2 * r + wide / 2 ^ (i - 1) % 2 * k) p3 h5 (by omega) (by omega) hs
      go_wp2_with fail
      generalize hbv : wide / 2 ^ (i - 1) % 2 = bv at *
      generalize hbk : bv * k = bk at *
      generalize hW : wide / 2 ^ (i - 1) = W at *
      clear he hq p1 p2
      obtain ⟨R, hR⟩ : ∃ R, R = 2 * r + bk := ⟨_, rfl⟩
      obtain ⟨Q, hQ⟩ : ∃ Q, Q = 2 * q := ⟨_, rfl⟩
      rw [← hR, ← hQ] at hs ⊢
      have hR0 : 0 ≤ R ∧ R ≤ 20000 := by omega
      have hQ0 : 0 ≤ Q := by omega
      clear hR hQ hq2 
      go_loopw [7, 8] (fun a b wr' => ∃ (q' r' : Int), a = .int .i64 q' ∧ b = .int .i64 r' ∧ q' * n + r' = W * k ∧ 0 ≤ r' ∧ r' ≤ 20000 ∧ 0 ≤ q' ∧ wr' = wr) (fun _ b _ => (intOf b).toNat)
      case atStart => exact ⟨Q, R, rfl, rfl, hs, hR0.1, hR0.2, hQ0, rfl⟩
      case round =>
        obtain ⟨q', r', rfl, rfl, he', hr', hr2, hq', rfl⟩ := hrel
        have hq3 := bits_q _ _ _ _ _ p3 h5 (by omega) hr' he'
        by_cases hrn : n ≤ r'
        · go_wp2_with fail
          go_roundw
          case rel => exact ⟨q' + 1, r' - n, rfl, rfl, by rw [Int.add_mul]; omega, by omega, by omega, by omega, trivial⟩
          case measure => simp [intOf]; omega
        · go_wp2_with fail
          go_roundw
          case rel => exact ⟨q', r', i - 1, by omega, rfl, rfl, by go_num, by rw [hW]; exact he', by omega, by omega, by omega, trivial⟩
          case measure => simp [intOf]; omega
    · obtain rfl : i = 0 := by omega
      go_wp2_with fail
      go_ret
      refine ⟨?_, rfl⟩
      rw [bits_end wide k n q r hr0 hr1 (by rw [he]; simp)]
      rfl
end Go.Proofs.Ytahdlbckcddeeaa
