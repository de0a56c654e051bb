/- THE PLAIN SIDE OF LAYER 14 (spans): parts of a wide number. -/
import Derived.Test.YtahdlbckcddeeaaSpansPlain
import Derived.RowKit
namespace Go.Proofs.Ytahdlbckcddeeaa
open Go.RowKit
theorem mul_div_parts (wide k n : Int) (hn : 0 < n) : wide * k / n = wide / n * k + wide % n * k / n := by
  have h : wide * k = wide % n * k + n * (wide / n * k) := by
    have e := Int.emod_add_mul_ediv wide n
    calc wide * k = (wide % n + n * (wide / n)) * k := by rw [e]
      _ = wide % n * k + n * (wide / n * k) := by rw [Int.add_mul, Int.mul_assoc]
  rw [h, Int.add_mul_ediv_left _ _ (by omega)]
  omega
theorem part_left (wide k n : Int) (h2 : 0 < wide) (h4 : 1 ≤ k) (h5 : k < n) : 0 ≤ wide / n * k ∧ wide / n * k ≤ wide := by
  have a : 0 ≤ wide / n := Int.ediv_nonneg (by omega) (by omega)
  constructor
  · exact Int.mul_nonneg a (by omega)
  · have b : wide / n * k ≤ wide / n * n := Int.mul_le_mul_of_nonneg_left (by omega) a
    have c := Int.ediv_mul_le wide (b := n) (by omega)
    omega
theorem part_right (wide k n : Int) (h4 : 0 ≤ k) (h5 : k < n) (h6 : n ≤ 4097) : 0 ≤ wide % n * k ∧ wide % n * k ≤ 4097 * 4097 := by
  have a : 0 ≤ wide % n := Int.emod_nonneg _ (by omega)
  have b : wide % n < n := Int.emod_lt_of_pos _ (by omega)
  constructor
  · exact Int.mul_nonneg a (by omega)
  · have c : wide % n * k ≤ wide % n * 4097 := Int.mul_le_mul_of_nonneg_left (by omega) a
    omega
theorem part_le (wide k n : Int) (h2 : 0 ≤ wide) (h4 : 0 ≤ k) (h5 : k < n) : 0 ≤ wide * k / n ∧ wide * k / n ≤ wide := by
  constructor
  · exact Int.ediv_nonneg (Int.mul_nonneg h2 h4) (by omega)
  · have : wide * k ≤ wide * n := Int.mul_le_mul_of_nonneg_left (by omega) h2
    exact Int.ediv_le_of_le_mul (by omega) this
/-- One step of the document's division by bits. -/
theorem bits_step (wide k n q r : Int) (i : Nat) (h0 : 0 < i) (h : q * n + r = wide / 2 ^ i * k) : (2 * q) * n + (2 * r + wide / 2 ^ (i - 1) % 2 * k) = wide / 2 ^ (i - 1) * k := by
  have e : wide / 2 ^ i = wide / 2 ^ (i - 1) / 2 := by
    rw [Int.ediv_ediv_of_nonneg (by exact Int.le_of_lt (Int.pow_pos (by decide))), ← Int.pow_succ]
    congr 2
    omega
  rw [e] at h
  generalize wide / 2 ^ (i - 1) = W at h ⊢
  have d := Int.emod_add_mul_ediv W 2
  have : W * k = W % 2 * k + 2 * (W / 2 * k) := by
    calc W * k = (W % 2 + 2 * (W / 2)) * k := by rw [d]
      _ = W % 2 * k + 2 * (W / 2 * k) := by rw [Int.add_mul, Int.mul_assoc]
  rw [this, Int.mul_assoc]
  omega
theorem bits_q (W k n q r : Int) (hw : 0 ≤ W) (hk : k < n) (hn : 0 < n) (hr : 0 ≤ r) (h : q * n + r = W * k) : q ≤ W := by
  have a : W * k ≤ W * n := Int.mul_le_mul_of_nonneg_left (by omega) hw
  have b : q * n ≤ W * n := by omega
  exact Int.le_of_mul_le_mul_right b hn
theorem bits_end (wide k n q r : Int) (hr : 0 ≤ r) (hr1 : r < n) (h : q * n + r = wide * k) : wide * k / n = q := by
  rw [← h, Int.add_comm, Int.add_mul_ediv_right _ _ (by omega), Int.ediv_eq_zero_of_lt hr hr1]
  omega
theorem pow_le (wide : Int) (i : Nat) (h : 0 ≤ wide) : 0 ≤ wide / 2 ^ i ∧ wide / 2 ^ i ≤ wide := by
  constructor
  · exact Int.ediv_nonneg h (Int.le_of_lt (Int.pow_pos (by decide)))
  · exact Int.ediv_le_self _ h
theorem pow_63 (wide : Int) (h : 0 ≤ wide) (h2 : wide ≤ 4611686018427387904) : wide / 2 ^ 63 = 0 := Int.ediv_eq_zero_of_lt h (by omega)
end Go.Proofs.Ytahdlbckcddeeaa
