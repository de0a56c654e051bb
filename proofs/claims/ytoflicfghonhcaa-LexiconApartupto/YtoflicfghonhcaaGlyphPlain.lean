/- THE PLAIN SIDE OF LAYER 1 (glyph): which characters there are, in plain Lean, no program in sight. -/
import Derived.WalkKit
namespace Go.Proofs.Ytoflicfghonhcaa
open Go.RowKit

def charB (c : Int) : Bool := decide (c = 9 ∨ c = 10 ∨ c = 13 ∨ (32 ≤ c ∧ c ≤ 55295) ∨ (57344 ≤ c ∧ c ≤ 65533) ∨ (65536 ≤ c ∧ c ≤ 1114111))

/-- The spans of the characters that names begin with. -/
def startSpans : List (Int × Int) := [(65, 90), (95, 95), (97, 122), (192, 214), (216, 246), (248, 767), (880, 893), (895, 8191), (8204, 8205), (8304, 8591), (11264, 12271), (12289, 55295), (63744, 64975), (65008, 65533), (65536, 983039)]
/-- The spans of those that names may have besides. -/
def partSpans : List (Int × Int) := [(45, 46), (48, 57), (183, 183), (768, 879), (8255, 8256)]

def hasB (s : Int × Int) (c : Int) : Bool := decide (s.1 ≤ c ∧ c ≤ s.2)
def startB (c : Int) : Bool := startSpans.any (hasB · c)
def partB (c : Int) : Bool := partSpans.any (hasB · c) || startB c

theorem startB_iff (c : Int) : startB c = true ↔ ((65 ≤ c ∧ c ≤ 90) ∨ c = 95 ∨ (97 ≤ c ∧ c ≤ 122) ∨ (192 ≤ c ∧ c ≤ 214) ∨ (216 ≤ c ∧ c ≤ 246) ∨ (248 ≤ c ∧ c ≤ 767) ∨ (880 ≤ c ∧ c ≤ 893) ∨ (895 ≤ c ∧ c ≤ 8191) ∨ c = 8204 ∨ c = 8205 ∨ (8304 ≤ c ∧ c ≤ 8591) ∨ (11264 ≤ c ∧ c ≤ 12271) ∨ (12289 ≤ c ∧ c ≤ 55295) ∨ (63744 ≤ c ∧ c ≤ 64975) ∨ (65008 ≤ c ∧ c ≤ 65533) ∨ (65536 ≤ c ∧ c ≤ 983039)) := by
  simp only [startB, startSpans, hasB, List.any_cons, List.any_nil, Bool.or_eq_true, decide_eq_true_eq, Bool.false_eq_true, or_false]
  omega
theorem partB_iff (c : Int) : partB c = true ↔ (startB c = true ∨ c = 45 ∨ c = 46 ∨ (48 ≤ c ∧ c ≤ 57) ∨ c = 183 ∨ (768 ≤ c ∧ c ≤ 879) ∨ c = 8255 ∨ c = 8256) := by
  simp only [partB, partSpans, hasB, List.any_cons, List.any_nil, Bool.or_eq_true, decide_eq_true_eq, Bool.false_eq_true, or_false]
  constructor
  · rintro (h | h)
    · right; omega
    · exact .inl h
  · rintro (h | h)
    · exact .inr h
    · left; omega
theorem charB_iff (c : Int) : charB c = true ↔ (c = 9 ∨ c = 10 ∨ c = 13 ∨ (32 ≤ c ∧ c ≤ 55295) ∨ (57344 ≤ c ∧ c ≤ 65533) ∨ (65536 ≤ c ∧ c ≤ 1114111)) := by simp [charB]
theorem start_part {c : Int} (h : startB c = true) : partB c = true := (partB_iff c).2 (.inl h)
theorem part_char {c : Int} (h : partB c = true) : charB c = true := by
  rw [partB_iff, startB_iff] at h; rw [charB_iff]; omega

/-- From a test, as the walk leaves it, to the function's own word. -/
theorem ret_bool {a b : Bool} (h : a = b) : Ending.returned (.bool a) = .returned (.bool b) := by rw [h]
theorem ret_int {k : IntKind} {a b : Int} (h : a = b) : Ending.returned (.int k a) = .returned (.int k b) := by rw [h]

end Go.Proofs.Ytoflicfghonhcaa
