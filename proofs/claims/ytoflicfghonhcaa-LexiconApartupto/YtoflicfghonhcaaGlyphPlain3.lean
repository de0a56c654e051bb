/- THE PLAIN SIDE OF LAYER 1 (glyph): reading a character, in plain Lean, no program in sight. -/
import Derived.Test.YtoflicfghonhcaaGlyphPlain2
namespace Go.Proofs.Ytoflicfghonhcaa
open Go.RowKit

/-- The byte at a place, as a number; 0 behind the end. -/
def bt (l : List UInt8) (i : Nat) : Int := ((l.getD i 0).toNat : Int)
theorem bt_bd (l : List UInt8) (i : Nat) : 0 ≤ bt l i ∧ bt l i ≤ 255 := by
  have := (l.getD i 0).toNat_lt
  unfold bt; omega

def headN (x : Int) : Int := if x < 128 then 1 else if x < 192 then 0 else if x < 224 then 2 else if x < 240 then 3 else if x < 248 then 4 else 0
def headC (x : Int) : Int := if x < 128 then x else if x < 192 then 0 else if x < 224 then x % 32 else if x < 240 then x % 16 else if x < 248 then x % 8 else 0
def stepG (x b : Int) : Int := bits BinOp.or .i32 (wrap32 (x * 64)) (b % 64)
def badB (b : Int) : Bool := bits BinOp.and .u8 b 192 != 128
/-- The program's way through the bytes behind the first one. -/
def foldG (l : List UInt8) : Nat → Nat → Int → Option Int
  | 0, _, x => some x
  | m + 1, k, x => if badB (bt l (k + 1)) then none else foldG l m (k + 1) (stepG x (bt l (k + 1)))
def endG (l : List UInt8) (n : Nat) : Option Int → Int × Nat
  | none => (-1, 0)
  | some x => if charB x = true ∧ putL x = l.take n then (x, n) else (-1, 0)
def nextG (l : List UInt8) : Int × Nat :=
  if l = [] then (0, 0)
  else if headN (bt l 0) = 0 ∨ l.length < (headN (bt l 0)).toNat then (-1, 0)
  else endG l (headN (bt l 0)).toNat (foldG l ((headN (bt l 0)).toNat - 1) 0 (headC (bt l 0)))

/-- The document's. -/
def refN (x : Int) : Nat := if 192 ≤ x ∧ x < 224 then 2 else if 224 ≤ x ∧ x < 240 then 3 else if 240 ≤ x ∧ x < 248 then 4 else 1
def refC (x : Int) : Int := if 192 ≤ x ∧ x < 224 then x - 192 else if 224 ≤ x ∧ x < 240 then x - 224 else if 240 ≤ x ∧ x < 248 then x - 240 else x
def stepR (x b : Int) : Int := wrap32 (wrap32 (wrap32 (x * 64) + b) - 128)
def foldR (l : List UInt8) : Nat → Nat → Int → Int
  | 0, _, x => x
  | m + 1, k, x => foldR l m (k + 1) (stepR x (bt l (k + 1)))
def nextR (l : List UInt8) : Int × Nat :=
  if l = [] then (0, 0)
  else if l.length < refN (bt l 0) then (-1, 0)
  else endG l (refN (bt l 0)) (some (foldR l (refN (bt l 0) - 1) 0 (refC (bt l 0))))

/-! ### What it is to begin with a character's bytes -/
def IsNext (l : List UInt8) (c : Int) : Prop := charB c = true ∧ ∃ r, l = putL c ++ r
open Classical in
noncomputable def nextP (l : List UInt8) : Int × Nat :=
  if h : ∃ c, IsNext l c then (h.choose, (putL h.choose).length) else if l = [] then (0, 0) else (-1, 0)

theorem toU8_nat {n : Int} (h0 : 0 ≤ n) (h1 : n < 256) : ((toU8 n).toNat : Int) = n := by
  have e : n.toNat < 256 := by omega
  simp [toU8, UInt8.toNat_ofNat', Nat.mod_eq_of_lt e]; omega

theorem bt_cons0 (a : UInt8) (r : List UInt8) : bt (a :: r) 0 = (a.toNat : Int) := by simp [bt]
theorem bt_cons (a : UInt8) (r : List UInt8) (i : Nat) : bt (a :: r) (i + 1) = bt r i := by simp [bt]

theorem and192 (q : Int) (h0 : 0 ≤ q) (h1 : q < 64) : badB (128 + q) = false := by
  have h : (List.range 64).all (fun q => badB (128 + q) == false) = true := by decide +kernel
  have := List.all_eq_true.1 h q.toNat (by simp; omega)
  have e : ((q.toNat : Nat) : Int) = q := by omega
  rw [e] at this
  simpa using this
theorem stepG_eq (x q : Int) (h0 : 0 ≤ x) (h1 : x < 33554432) (h2 : 0 ≤ q) (h3 : q < 64) : stepG x (128 + q) = x * 64 + q := by
  have e : wrap32 (x * 64) = x * 64 := by unfold wrap32; omega
  have e2 : (128 + q) % 64 = q := by omega
  unfold stepG
  rw [e, e2, i32_or6 _ _ (by omega) (by omega) (by omega) h2 h3]
theorem stepR_eq (x q : Int) (h0 : 0 ≤ x) (h1 : x < 33554400) (h2 : 0 ≤ q) (h3 : q < 64) : stepR x (128 + q) = x * 64 + q := by
  have e : wrap32 (x * 64) = x * 64 := by unfold wrap32; omega
  unfold stepR
  rw [e]
  unfold wrap32
  omega

theorem putL_pos (c : Int) : 0 < (putL c).length := by
  simp only [putL, List.length_map, putV]
  (repeat' split) <;> simp

/-- The program reads a character's bytes. -/
theorem nextG_put (c : Int) (r : List UInt8) (h : charB c = true) : nextG (putL c ++ r) = (c, (putL c).length) := by
  have hb := charB_bd h
  have fin : ∀ n, (putL c).length = n → endG (putL c ++ r) n (some c) = (c, n) := by
    intro n hn
    subst hn
    simp [endG, h]
  have hne : putL c ++ r ≠ [] := by
    intro e
    have := putL_pos c
    have e2 : putL c = [] := (List.append_eq_nil_iff.1 e).1
    rw [e2] at this
    simp at this
  by_cases h1 : c < 128
  · have e : putL c = [toU8 c] := by simp [putL, putV, h1]
    have b0 : bt (putL c ++ r) 0 = c := by rw [e]; simp only [List.cons_append, List.nil_append, bt_cons0]; exact toU8_nat (by omega) (by omega)
    have hn : headN c = 1 := by simp [headN, h1]
    have hl : (putL c).length = 1 := by rw [e]; rfl
    unfold nextG
    rw [if_neg hne, b0, hn, if_neg (by simp [hl])]
    have : headC c = c := by simp [headC, h1]
    rw [this]
    simp only [foldG, Int.toNat_one, Nat.sub_self]
    rw [hl]
    exact fin 1 hl
  by_cases h2 : c < 2048
  · have e : putL c = [toU8 (192 + c / 64), toU8 (128 + c % 64)] := by simp [putL, putV, h1, h2]
    have b0 : bt (putL c ++ r) 0 = 192 + c / 64 := by rw [e]; simp only [List.cons_append, List.nil_append, bt_cons0]; exact toU8_nat (by omega) (by omega)
    have b1 : bt (putL c ++ r) 1 = 128 + c % 64 := by rw [e]; simp only [List.cons_append, List.nil_append, bt_cons0, bt_cons]; exact toU8_nat (by omega) (by omega)
    have hn : headN (192 + c / 64) = 2 := by unfold headN; rw [if_neg (by omega), if_neg (by omega), if_pos (by omega)]
    have hc : headC (192 + c / 64) = c / 64 := by unfold headC; rw [if_neg (by omega), if_neg (by omega), if_pos (by omega)]; omega
    have hl : (putL c).length = 2 := by rw [e]; rfl
    unfold nextG
    rw [if_neg hne, b0, hn, hc, if_neg (by simp [hl])]
    have t : ((2 : Int)).toNat = 2 := rfl
    rw [t]
    simp only [foldG, Nat.zero_add, b1, Nat.add_one_sub_one, and192 (c % 64) (by omega) (by omega), Bool.false_eq_true, if_false]
    rw [stepG_eq (c / 64) (c % 64) (by omega) (by omega) (by omega) (by omega), show c / 64 * 64 + c % 64 = c by omega, hl]
    exact fin 2 hl
  by_cases h3 : c < 65536
  · have e : putL c = [toU8 (224 + c / 4096), toU8 (128 + c / 64 % 64), toU8 (128 + c % 64)] := by simp [putL, putV, h1, h2, h3]
    have b0 : bt (putL c ++ r) 0 = 224 + c / 4096 := by rw [e]; simp only [List.cons_append, List.nil_append, bt_cons0]; exact toU8_nat (by omega) (by omega)
    have b1 : bt (putL c ++ r) 1 = 128 + c / 64 % 64 := by rw [e]; simp only [List.cons_append, List.nil_append, bt_cons0, bt_cons]; exact toU8_nat (by omega) (by omega)
    have b2 : bt (putL c ++ r) 2 = 128 + c % 64 := by rw [e]; simp only [List.cons_append, List.nil_append, bt_cons0, bt_cons]; exact toU8_nat (by omega) (by omega)
    have hn : headN (224 + c / 4096) = 3 := by unfold headN; rw [if_neg (by omega), if_neg (by omega), if_neg (by omega), if_pos (by omega)]
    have hc : headC (224 + c / 4096) = c / 4096 := by unfold headC; rw [if_neg (by omega), if_neg (by omega), if_neg (by omega), if_pos (by omega)]; omega
    have hl : (putL c).length = 3 := by rw [e]; rfl
    unfold nextG
    rw [if_neg hne, b0, hn, hc, if_neg (by simp [hl])]
    have t : ((3 : Int)).toNat = 3 := rfl
    rw [t]
    simp only [foldG, Nat.zero_add, b1, b2, Nat.add_one_sub_one, Nat.reduceAdd, and192 (c % 64) (by omega) (by omega), and192 (c / 64 % 64) (by omega) (by omega), Bool.false_eq_true, if_false]
    rw [stepG_eq (c / 4096) (c / 64 % 64) (by omega) (by omega) (by omega) (by omega), stepG_eq _ (c % 64) (by omega) (by omega) (by omega) (by omega), show (c / 4096 * 64 + c / 64 % 64) * 64 + c % 64 = c by omega, hl]
    exact fin 3 hl
  · have e : putL c = [toU8 (240 + c / 262144), toU8 (128 + c / 4096 % 64), toU8 (128 + c / 64 % 64), toU8 (128 + c % 64)] := by simp [putL, putV, h1, h2, h3]
    have b0 : bt (putL c ++ r) 0 = 240 + c / 262144 := by rw [e]; simp only [List.cons_append, List.nil_append, bt_cons0]; exact toU8_nat (by omega) (by omega)
    have b1 : bt (putL c ++ r) 1 = 128 + c / 4096 % 64 := by rw [e]; simp only [List.cons_append, List.nil_append, bt_cons0, bt_cons]; exact toU8_nat (by omega) (by omega)
    have b2 : bt (putL c ++ r) 2 = 128 + c / 64 % 64 := by rw [e]; simp only [List.cons_append, List.nil_append, bt_cons0, bt_cons]; exact toU8_nat (by omega) (by omega)
    have b3 : bt (putL c ++ r) 3 = 128 + c % 64 := by rw [e]; simp only [List.cons_append, List.nil_append, bt_cons0, bt_cons]; exact toU8_nat (by omega) (by omega)
    have hn : headN (240 + c / 262144) = 4 := by unfold headN; rw [if_neg (by omega), if_neg (by omega), if_neg (by omega), if_neg (by omega), if_pos (by omega)]
    have hc : headC (240 + c / 262144) = c / 262144 := by unfold headC; rw [if_neg (by omega), if_neg (by omega), if_neg (by omega), if_neg (by omega), if_pos (by omega)]; omega
    have hl : (putL c).length = 4 := by rw [e]; rfl
    unfold nextG
    rw [if_neg hne, b0, hn, hc, if_neg (by simp [hl])]
    have t : ((4 : Int)).toNat = 4 := rfl
    rw [t]
    simp only [foldG, Nat.zero_add, b1, b2, b3, Nat.add_one_sub_one, Nat.reduceAdd, and192 (c % 64) (by omega) (by omega), and192 (c / 64 % 64) (by omega) (by omega), and192 (c / 4096 % 64) (by omega) (by omega), Bool.false_eq_true, if_false]
    rw [stepG_eq (c / 262144) (c / 4096 % 64) (by omega) (by omega) (by omega) (by omega), stepG_eq _ (c / 64 % 64) (by omega) (by omega) (by omega) (by omega), stepG_eq _ (c % 64) (by omega) (by omega) (by omega) (by omega), show ((c / 262144 * 64 + c / 4096 % 64) * 64 + c / 64 % 64) * 64 + c % 64 = c by omega, hl]
    exact fin 4 hl

/-- And the document's way. -/
theorem nextR_put (c : Int) (r : List UInt8) (h : charB c = true) : nextR (putL c ++ r) = (c, (putL c).length) := by
  have hb := charB_bd h
  have fin : ∀ n, (putL c).length = n → endG (putL c ++ r) n (some c) = (c, n) := by
    intro n hn
    subst hn
    simp [endG, h]
  have hne : putL c ++ r ≠ [] := by
    intro e
    have := putL_pos c
    have e2 : putL c = [] := (List.append_eq_nil_iff.1 e).1
    rw [e2] at this
    simp at this
  by_cases h1 : c < 128
  · have e : putL c = [toU8 c] := by simp [putL, putV, h1]
    have b0 : bt (putL c ++ r) 0 = c := by rw [e]; simp only [List.cons_append, List.nil_append, bt_cons0]; exact toU8_nat (by omega) (by omega)
    have hn : refN c = 1 := by unfold refN; rw [if_neg (by omega), if_neg (by omega), if_neg (by omega)]
    have hc : refC c = c := by unfold refC; rw [if_neg (by omega), if_neg (by omega), if_neg (by omega)]
    have hl : (putL c).length = 1 := by rw [e]; rfl
    unfold nextR
    rw [if_neg hne, b0, hn, hc, if_neg (by simp [hl])]
    simp only [foldR, Nat.sub_self]
    rw [hl]
    exact fin 1 hl
  by_cases h2 : c < 2048
  · have e : putL c = [toU8 (192 + c / 64), toU8 (128 + c % 64)] := by simp [putL, putV, h1, h2]
    have b0 : bt (putL c ++ r) 0 = 192 + c / 64 := by rw [e]; simp only [List.cons_append, List.nil_append, bt_cons0]; exact toU8_nat (by omega) (by omega)
    have b1 : bt (putL c ++ r) 1 = 128 + c % 64 := by rw [e]; simp only [List.cons_append, List.nil_append, bt_cons0, bt_cons]; exact toU8_nat (by omega) (by omega)
    have hn : refN (192 + c / 64) = 2 := by unfold refN; rw [if_pos (by omega)]
    have hc : refC (192 + c / 64) = c / 64 := by unfold refC; rw [if_pos (by omega)]; omega
    have hl : (putL c).length = 2 := by rw [e]; rfl
    unfold nextR
    rw [if_neg hne, b0, hn, hc, if_neg (by simp [hl])]
    simp only [foldR, Nat.zero_add, b1, Nat.add_one_sub_one]
    rw [stepR_eq (c / 64) (c % 64) (by omega) (by omega) (by omega) (by omega), show c / 64 * 64 + c % 64 = c by omega, hl]
    exact fin 2 hl
  by_cases h3 : c < 65536
  · have e : putL c = [toU8 (224 + c / 4096), toU8 (128 + c / 64 % 64), toU8 (128 + c % 64)] := by simp [putL, putV, h1, h2, h3]
    have b0 : bt (putL c ++ r) 0 = 224 + c / 4096 := by rw [e]; simp only [List.cons_append, List.nil_append, bt_cons0]; exact toU8_nat (by omega) (by omega)
    have b1 : bt (putL c ++ r) 1 = 128 + c / 64 % 64 := by rw [e]; simp only [List.cons_append, List.nil_append, bt_cons0, bt_cons]; exact toU8_nat (by omega) (by omega)
    have b2 : bt (putL c ++ r) 2 = 128 + c % 64 := by rw [e]; simp only [List.cons_append, List.nil_append, bt_cons0, bt_cons]; exact toU8_nat (by omega) (by omega)
    have hn : refN (224 + c / 4096) = 3 := by unfold refN; rw [if_neg (by omega), if_pos (by omega)]
    have hc : refC (224 + c / 4096) = c / 4096 := by unfold refC; rw [if_neg (by omega), if_pos (by omega)]; omega
    have hl : (putL c).length = 3 := by rw [e]; rfl
    unfold nextR
    rw [if_neg hne, b0, hn, hc, if_neg (by simp [hl])]
    simp only [foldR, Nat.zero_add, b1, b2, Nat.add_one_sub_one, Nat.reduceAdd]
    rw [stepR_eq (c / 4096) (c / 64 % 64) (by omega) (by omega) (by omega) (by omega), stepR_eq _ (c % 64) (by omega) (by omega) (by omega) (by omega), show (c / 4096 * 64 + c / 64 % 64) * 64 + c % 64 = c by omega, hl]
    exact fin 3 hl
  · have e : putL c = [toU8 (240 + c / 262144), toU8 (128 + c / 4096 % 64), toU8 (128 + c / 64 % 64), toU8 (128 + c % 64)] := by simp [putL, putV, h1, h2, h3]
    have b0 : bt (putL c ++ r) 0 = 240 + c / 262144 := by rw [e]; simp only [List.cons_append, List.nil_append, bt_cons0]; exact toU8_nat (by omega) (by omega)
    have b1 : bt (putL c ++ r) 1 = 128 + c / 4096 % 64 := by rw [e]; simp only [List.cons_append, List.nil_append, bt_cons0, bt_cons]; exact toU8_nat (by omega) (by omega)
    have b2 : bt (putL c ++ r) 2 = 128 + c / 64 % 64 := by rw [e]; simp only [List.cons_append, List.nil_append, bt_cons0, bt_cons]; exact toU8_nat (by omega) (by omega)
    have b3 : bt (putL c ++ r) 3 = 128 + c % 64 := by rw [e]; simp only [List.cons_append, List.nil_append, bt_cons0, bt_cons]; exact toU8_nat (by omega) (by omega)
    have hn : refN (240 + c / 262144) = 4 := by unfold refN; rw [if_neg (by omega), if_neg (by omega), if_pos (by omega)]
    have hc : refC (240 + c / 262144) = c / 262144 := by unfold refC; rw [if_neg (by omega), if_neg (by omega), if_pos (by omega)]; omega
    have hl : (putL c).length = 4 := by rw [e]; rfl
    unfold nextR
    rw [if_neg hne, b0, hn, hc, if_neg (by simp [hl])]
    simp only [foldR, Nat.zero_add, b1, b2, b3, Nat.add_one_sub_one, Nat.reduceAdd]
    rw [stepR_eq (c / 262144) (c / 4096 % 64) (by omega) (by omega) (by omega) (by omega), stepR_eq _ (c / 64 % 64) (by omega) (by omega) (by omega) (by omega), stepR_eq _ (c % 64) (by omega) (by omega) (by omega) (by omega), show ((c / 262144 * 64 + c / 4096 % 64) * 64 + c / 64 % 64) * 64 + c % 64 = c by omega, hl]
    exact fin 4 hl

theorem next_unique {l : List UInt8} {c c' : Int} (h : IsNext l c) (h' : IsNext l c') : c = c' := by
  obtain ⟨hc, r, rfl⟩ := h
  obtain ⟨hc', r', e⟩ := h'
  have a := nextG_put c r hc
  rw [e, nextG_put c' r' hc'] at a
  exact (Prod.mk.inj a).1.symm
theorem nextP_yes {l : List UInt8} {c : Int} (h : IsNext l c) : nextP l = (c, (putL c).length) := by
  have hx : ∃ c, IsNext l c := ⟨c, h⟩
  unfold nextP
  rw [dif_pos hx, next_unique hx.choose_spec h]
theorem nextP_no {l : List UInt8} (h : ¬ ∃ c, IsNext l c) (h0 : l ≠ []) : nextP l = (-1, 0) := by
  unfold nextP
  rw [dif_neg h, if_neg h0]
theorem nextP_nil : nextP [] = (0, 0) := by
  unfold nextP
  rw [dif_neg, if_pos rfl]
  rintro ⟨c, hc, r, e⟩
  have := putL_pos c
  rw [(List.append_eq_nil_iff.1 e.symm).1] at this
  simp at this

theorem endG_no {l : List UInt8} {n : Nat} {o : Option Int} (h : ¬ ∃ c, IsNext l c) : endG l n o = (-1, 0) := by
  cases o with
  | none => rfl
  | some x =>
    simp only [endG]
    rw [if_neg]
    rintro ⟨hc, hp⟩
    exact h ⟨x, hc, l.drop n, by rw [hp, List.take_append_drop]⟩
theorem nextG_eq (l : List UInt8) : nextG l = nextP l := by
  by_cases h : ∃ c, IsNext l c
  · obtain ⟨c, hc⟩ := h
    rw [nextP_yes hc]
    obtain ⟨h1, r, rfl⟩ := hc
    exact nextG_put c r h1
  · by_cases h0 : l = []
    · subst h0; rw [nextP_nil]; rfl
    · rw [nextP_no h h0]
      unfold nextG
      rw [if_neg h0]
      split
      · rfl
      · exact endG_no h
theorem nextR_eq (l : List UInt8) : nextR l = nextP l := by
  by_cases h : ∃ c, IsNext l c
  · obtain ⟨c, hc⟩ := h
    rw [nextP_yes hc]
    obtain ⟨h1, r, rfl⟩ := hc
    exact nextR_put c r h1
  · by_cases h0 : l = []
    · subst h0; rw [nextP_nil]; rfl
    · rw [nextP_no h h0]
      unfold nextR
      rw [if_neg h0]
      split
      · rfl
      · exact endG_no h

theorem nextP_cases (l : List UInt8) : (∃ c, IsNext l c ∧ nextP l = (c, (putL c).length)) ∨ ((¬ ∃ c, IsNext l c) ∧ l ≠ [] ∧ nextP l = (-1, 0)) ∨ (l = [] ∧ nextP l = (0, 0)) := by
  by_cases h : ∃ c, IsNext l c
  · obtain ⟨c, hc⟩ := h
    exact .inl ⟨c, hc, nextP_yes hc⟩
  · by_cases h0 : l = []
    · subst h0; exact .inr (.inr ⟨rfl, nextP_nil⟩)
    · exact .inr (.inl ⟨h, h0, nextP_no h h0⟩)
theorem nextP_le (l : List UInt8) : (nextP l).2 ≤ l.length := by
  rcases nextP_cases l with ⟨c, ⟨_, r, rfl⟩, e⟩ | ⟨_, _, e⟩ | ⟨_, e⟩ <;> rw [e] <;> simp
theorem nextP_bd (l : List UInt8) : -1 ≤ (nextP l).1 ∧ (nextP l).1 ≤ 1114111 := by
  rcases nextP_cases l with ⟨c, ⟨hc, r, rfl⟩, e⟩ | ⟨_, _, e⟩ | ⟨_, e⟩ <;> rw [e] <;> simp
  have := charB_bd hc
  omega
end Go.Proofs.Ytoflicfghonhcaa
