/- THE PLAIN SIDE OF LAYER 1 (glyph): the bytes of a character, in plain Lean, no program in sight. -/
import Derived.Test.YtoflicfghonhcaaGlyphPlain
namespace Go.Proofs.Ytoflicfghonhcaa
open Go.RowKit

/-- The bytes of a number, as numbers. -/
def putV (c : Int) : List Int :=
  if c < 128 then [c] else if c < 2048 then [192 + c / 64, 128 + c % 64]
  else if c < 65536 then [224 + c / 4096, 128 + c / 64 % 64, 128 + c % 64]
  else [240 + c / 262144, 128 + c / 4096 % 64, 128 + c / 64 % 64, 128 + c % 64]
/-- The bytes of a character; nothing, if it is none. -/
def putB (c : Int) : ByteArray := if charB c then strOfNums (putV c) else ByteArray.empty
def toU8 (n : Int) : UInt8 := UInt8.ofNat n.toNat
def putL (c : Int) : List UInt8 := (putV c).map toU8

theorem putB_list {c : Int} (h : charB c = true) : (putB c).data.toList = putL c := by simp [putB, h, strOfNums, putL, toU8]
theorem putB_none {c : Int} (h : charB c = false) : putB c = ByteArray.empty := by simp [putB, h]

/-- What the first byte of so many bytes is, as 'laid' lays it, and the others. -/
def sixV (c : Int) (k : Nat) : Int := 128 + c / 2 ^ (6 * k) % 64
def tailV (c : Int) : Nat → List Int
  | 0 => []
  | k + 1 => sixV c k :: tailV c k
def headV (c mark : Int) (m : Nat) : Int := bits BinOp.or .u8 mark (c / 2 ^ (6 * (m - 1)) % 256)

theorem or_small (mark : Int) (n : Nat) (h : (List.range n).all (fun q => bits BinOp.or .u8 mark q == mark + q) = true) (q : Int) (h0 : 0 ≤ q) (h1 : q < n) : bits BinOp.or .u8 mark q = mark + q := by
  have := List.all_eq_true.1 h q.toNat (by simp; omega)
  have e : ((q.toNat : Nat) : Int) = q := by omega
  rw [e] at this
  simpa using this
theorem or_0 (q : Int) (h0 : 0 ≤ q) (h1 : q < 128) : bits BinOp.or .u8 0 q = q := by
  have := or_small 0 128 (by decide +kernel) q h0 (by simpa using h1)
  omega
theorem or_192 (q : Int) (h0 : 0 ≤ q) (h1 : q < 32) : bits BinOp.or .u8 192 q = 192 + q := or_small 192 32 (by decide +kernel) q h0 (by simpa using h1)
theorem or_224 (q : Int) (h0 : 0 ≤ q) (h1 : q < 16) : bits BinOp.or .u8 224 q = 224 + q := or_small 224 16 (by decide +kernel) q h0 (by simpa using h1)
theorem or_240 (q : Int) (h0 : 0 ≤ q) (h1 : q < 8) : bits BinOp.or .u8 240 q = 240 + q := or_small 240 8 (by decide +kernel) q h0 (by simpa using h1)

theorem laidV1 {c : Int} (h0 : 0 ≤ c) (h1 : c < 128) : headV c 0 1 :: tailV c 0 = putV c := by
  simp only [headV, tailV, putV, h1, if_true]
  have e : c / 2 ^ (6 * (1 - 1)) % 256 = c := by simp; omega
  rw [e, or_0 c h0 h1]
theorem laidV2 {c : Int} (h0 : 128 ≤ c) (h1 : c < 2048) : headV c 192 2 :: tailV c 1 = putV c := by
  simp only [headV, tailV, putV, sixV, h1, if_true]
  rw [if_neg (by omega)]
  have e : c / 2 ^ (6 * (2 - 1)) % 256 = c / 64 := by
    have : (2 : Int) ^ (6 * (2 - 1)) = 64 := by decide
    rw [this]; omega
  rw [e, or_192 _ (by omega) (by omega)]
  simp
theorem laidV3 {c : Int} (h0 : 2048 ≤ c) (h1 : c < 65536) : headV c 224 3 :: tailV c 2 = putV c := by
  simp only [headV, tailV, putV, sixV, h1, if_true]
  rw [if_neg (by omega), if_neg (by omega)]
  have e : c / 2 ^ (6 * (3 - 1)) % 256 = c / 4096 := by
    have : (2 : Int) ^ (6 * (3 - 1)) = 4096 := by decide
    rw [this]; omega
  rw [e, or_224 _ (by omega) (by omega)]
  have e2 : (2 : Int) ^ (6 * 1) = 64 := by decide
  rw [e2]
  simp
theorem laidV4 {c : Int} (h0 : 65536 ≤ c) (h1 : c ≤ 1114111) : headV c 240 4 :: tailV c 3 = putV c := by
  simp only [headV, tailV, putV, sixV]
  rw [if_neg (by omega), if_neg (by omega), if_neg (by omega)]
  have e : c / 2 ^ (6 * (4 - 1)) % 256 = c / 262144 := by
    have : (2 : Int) ^ (6 * (4 - 1)) = 262144 := by decide
    rw [this]; omega
  rw [e, or_240 _ (by omega) (by omega)]
  have e2 : (2 : Int) ^ (6 * 1) = 64 := by decide
  have e3 : (2 : Int) ^ (6 * 2) = 4096 := by decide
  rw [e2, e3]
  simp

theorem charB_bd {c : Int} (h : charB c = true) : 9 ≤ c ∧ c ≤ 1114111 := by rw [charB_iff] at h; omega
theorem ret_str {a b : ByteArray} (h : a = b) : Ending.returned (.string a) = .returned (.string b) := by rw [h]

theorem own_block_le {w : World} {base : Nat} {e : TypeId} {size : Nat} {v : Value} {n : Nat} {xs : List Value} (h : w.ownsRow base e size v n xs) (r : Nat) (hr : v.ownBlock = some r) : base ≤ r := by
  obtain ⟨_, ⟨rfl, _⟩ | ⟨g, cap, cur, rfl, hg, _⟩⟩ := h
  · simp [Value.ownBlock] at hr
  · simp [Value.ownBlock] at hr; omega
theorem own_bytes_at {w : World} {base : Nat} {e : TypeId} {k : IntKind} {v : Value} {n : Nat} {xs : List Int} (h : w.ownsRow base e 1 v n (xs.map (Value.int k))) (hn : 1 ≤ n) :
    ∃ g cap, v = .slice (some ⟨g, 0, none⟩) n cap ∧ ∀ i, i < n → w.cell? ⟨g, 0 + i, none⟩ = some (.int k (xs.getD i 0)) := by
  obtain ⟨hl, ⟨_, h0⟩ | ⟨g, cap, cur, rfl, hg, hh, hnc, hcm, hsz, htk⟩⟩ := h
  · omega
  · refine ⟨g, cap, rfl, fun i hi => ?_⟩
    simp only [Nat.mul_one, List.length_map] at hl htk
    have h1 : cur[i]? = some (.int k (xs.getD i 0)) := by
      have h2 : (cur.toList.take n)[i]? = cur.toList[i]? := by rw [List.getElem?_take, if_pos hi]
      rw [← Array.getElem?_toList, ← h2, htk]
      have hix : i < xs.length := by omega
      simp [hix]
    simp [World.cell?, hh, h1]
end Go.Proofs.Ytoflicfghonhcaa
