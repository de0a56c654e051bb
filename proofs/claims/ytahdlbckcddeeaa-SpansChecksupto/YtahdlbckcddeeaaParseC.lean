/- WALKS OF LAYER 4 (parse), the program's: Check. -/
import Derived.Test.YtahdlbckcddeeaaParseB
namespace Go.Proofs.Ytahdlbckcddeeaa
open Go.RowKit
set_option linter.unusedVariables false
/-- An item that lies in memory. -/
structure ItemAt (w : World) (b o : Nat) (x : Item) : Prop where
  level : w.cell? ⟨b, o, none⟩ = some (.int .i64 x.level)
  kind : w.cell? ⟨b, o + 1, none⟩ = some (.int .i64 x.kind)
  name : w.cell? ⟨b, o + 2, none⟩ = some (.string x.name)
  text : w.cell? ⟨b, o + 3, none⟩ = some (.string x.text)
  attrs : ∃ ao al ac, w.cell? ⟨b, o + 4, none⟩ = some (.slice ao al ac) ∧ AttrsAt w ao al x.attrs
  nameSmall : x.name.size ≤ 140737488351232
  textSmall : x.text.size ≤ 140737488351232
theorem ItemAt.below {w w' : World} {b o : Nat} {x : Item} (h : ItemAt w b o x) (hb : Below w.heap.size w w') : ItemAt w' b o x := by
  have hlt : b < w.heap.size := block_lt_of_cell h.level
  obtain ⟨ao, al, ac, h4, ha⟩ := h.attrs
  exact ⟨(hb.cell (by exact hlt)).trans h.level, (hb.cell (by exact hlt)).trans h.kind, (hb.cell (by exact hlt)).trans h.name, (hb.cell (by exact hlt)).trans h.text, ⟨ao, al, ac, (hb.cell (by exact hlt)).trans h4, ha.below hb⟩, h.nameSmall, h.textSmall⟩
/-- A row of items. -/
def ItemsAt (w : World) (b off : Nat) (L : List Item) : Prop := ∀ k, k < L.length → ItemAt w b (off + k * 5) (L.getD k default)
theorem ItemsAt.below {w w' : World} {b off : Nat} {L : List Item} (h : ItemsAt w b off L) (hb : Below w.heap.size w w') : ItemsAt w' b off L := fun k hk => (h k hk).below hb
theorem place0_level {lv kd : Int} (h : place0 lv kd = 0) : lv = 0 := by
  unfold place0 at h
  by_cases hc : lv ≠ 0 ∨ kd ≠ 1
  · rw [if_pos hc] at h; exact absurd h (by decide)
  · omega
theorem place1_level {lv lv0 kd0 : Int} {k : Nat} (h : place1 lv lv0 kd0 k = 0) : 1 ≤ lv ∧ lv < 40 := by
  unfold place1 at h
  by_cases hc : lv < 1 ∨ lv0 + 1 < lv ∨ (lv0 < lv ∧ kd0 = 2)
  · rw [if_pos hc] at h; exact absurd h (by decide)
  · rw [if_neg hc] at h
    by_cases h4 : 40 ≤ lv
    · rw [if_pos h4] at h; exact absurd h (by decide)
    · omega
/-- Where an item may stand. -/
noncomputable def placeP (k : Nat) (prev x : Item) : Int := if k = 0 then place0 x.level x.kind else place1 x.level prev.level prev.kind k
theorem oneP_eq (k : Nat) (prev x : Item) : oneP k prev x = if placeP k prev x ≠ 0 then placeP k prev x else partsP x := rfl
theorem oneP_level {k : Nat} {prev x : Item} (h : oneP k prev x = 0) : 0 ≤ x.level ∧ x.level < 40 := by
  rw [oneP_eq] at h
  by_cases hp : placeP k prev x ≠ 0
  · rw [if_pos hp] at h; exact absurd h hp
  · have hz : placeP k prev x = 0 := by simpa using hp
    unfold placeP at hz
    by_cases hk : k = 0
    · rw [if_pos hk] at hz; have := place0_level hz; omega
    · rw [if_neg hk] at hz; have := place1_level hz; omega
theorem place_any (b off len cap : Nat) (L : List Item) (k : Nat) (hl : len = L.length) (hlen : len ≤ 140737488351232) (w : World) (hi : ItemsAt w b off L) (hk : k < L.length) (hprev : k ≠ 0 → 0 ≤ (L.getD (k - 1) default).level ∧ (L.getD (k - 1) default).level < 40) :
    Calls Try.prog 33 #[.slice (some ⟨b, off, none⟩) len cap, .int .i64 k] w fun e w' => e = .returned (.int .i64 (placeP k (L.getD (k - 1) default) (L.getD k default))) ∧ Below w.heap.size w w' := by
  have h := hi k hk
  obtain ⟨ao, al, ac, h4, ha⟩ := h.attrs
  unfold placeP
  match k, hk, hprev, h, h4 with
  | 0, hk, _, h, h4 =>
    rw [if_pos rfl]
    simp only [Nat.zero_mul, Nat.add_zero] at h h4
    exact place_first b off len cap _ _ _ _ ao al ac w (by omega) h.level h.kind h.name h.text h4
  | k + 1, hk, hprev, h, h4 =>
    rw [if_neg (by omega)]
    have hp := hprev (by omega)
    have h0 := hi k (by omega)
    exact place_next b off len cap k _ _ _ _ _ _ ao al ac w (by omega) (by omega) hp.1 hp.2 h.level h.kind h.name h.text h4 h0.level h0.kind
set_option maxRecDepth 100000 in
set_option maxHeartbeats 4000000 in
theorem check_some (b off len cap : Nat) (L : List Item) (hl : len = L.length) (h0 : 0 < len) (hlen : len ≤ 140737488351232) (w : World) (hi : ItemsAt w b off L) :
    Calls Try.prog 25 #[.slice (some ⟨b, off, none⟩) len cap] w fun e w' => e = .returned (.tuple #[.int .i64 (checkFrom L len 0).1, .int .i64 (checkFrom L len 0).2]) ∧ Below w.heap.size w w' := by
  have hz : ((len : Int) == 0) = false := by simp; omega
  have hbl : b < w.heap.size := block_lt_of_cell (hi 0 (by omega)).level
  have HI := Lib.hid hi
  have HL := Lib.hid hl
  clear hi hl
  go_enter Try.func25, Try.ntmps25
  go_wp2_with fail
  go_loopw [12] (fun i wr => ∃ k : Nat, k ≤ len ∧ i = .int .i64 k ∧ checkFrom L (len - k) k = checkFrom L len 0 ∧ (k ≠ 0 → 0 ≤ (L.getD (k - 1) default).level ∧ (L.getD (k - 1) default).level < 40) ∧ Below w.heap.size w wr) (fun i _ => len - (intOf i).toNat)
  case atStart => exact ⟨0, by omega, rfl, rfl, fun h => absurd rfl h, Below.refl _ _⟩
  case round =>
    obtain ⟨k, hk, rfl, hc, hp, hb⟩ := hrel
    have HC := Lib.hid hc
    have HP := Lib.hid hp
    clear hc hp
    by_cases hlt : k < len
    · have hit := ((HI.out.below hb) k (by rw [← HL.out]; exact hlt))
      obtain ⟨x, hx⟩ : ∃ x, x = L.getD k default := ⟨_, rfl⟩
      rw [← hx] at hit
      obtain ⟨ao, al, ac, h4, ha⟩ := hit.attrs
      have h1 := hit.level
      have h2 := hit.kind
      have h3 := hit.name
      have h5 := hit.text
      have HT := Lib.hid hit
      have HX := Lib.hid hx
      have hblr : b < wr.heap.size := Nat.lt_of_lt_of_le hbl hb.size
      obtain ⟨pe, hpe⟩ : ∃ pe, pe = placeP k (L.getD (k - 1) default) (L.getD k default) := ⟨_, rfl⟩
      have HA := Lib.hid ha
      have hstep : Hid (checkFrom L (len - k) k = if oneP k (L.getD (k - 1) default) x ≠ 0 then ((k : Int), oneP k (L.getD (k - 1) default) x) else checkFrom L (len - (k + 1)) (k + 1)) := by
        rw [hx]
        have e : len - k = (len - (k + 1)) + 1 := by omega
        rw [e]; rfl
      have hone : Hid (oneP k (L.getD (k - 1) default) x = if pe ≠ 0 then pe else partsP x) := by rw [oneP_eq, hpe, hx]; exact Lib.hid rfl
      have HPE := Lib.hid hpe
      have hpl : Hid (∀ w2, ItemsAt w2 b off L → Calls Try.prog 33 #[.slice (some ⟨b, off, none⟩) len cap, .int .i64 k] w2 fun e w' => e = .returned (.int .i64 pe) ∧ Below w2.heap.size w2 w') := by
        intro w2 h
        rw [hpe]
        exact place_any b off len cap L k HL.out hlen w2 h (by rw [← HL.out]; exact hlt) HP.out
      clear hit hx hpe ha
      go_wp2_with fail
      refine (hpl.out _ ((HI.out.below hb).below ((Below.refl _ _).alloc (Nat.le_refl _) _))).mono ?_
      rintro e w2 ⟨rfl, hb2⟩
      have hbw : Below wr.heap.size wr w2 := ((Below.refl _ _).alloc (Nat.le_refl _) _).trans (hb2.mono (by simp))
      have hsz2 : wr.heap.size < w2.heap.size := by have := hb2.size; simp at this; omega
      have c0 : w2.cell? ⟨wr.heap.size, 0, none⟩ = some (.int .i64 x.level) := (hb2.cell (by simp)).trans (by rw [World.cell?_alloc_mark]; rfl)
      have c1 : w2.cell? ⟨wr.heap.size, 1, none⟩ = some (.int .i64 x.kind) := (hb2.cell (by simp)).trans (by rw [World.cell?_alloc_mark]; rfl)
      have c2 : w2.cell? ⟨wr.heap.size, 2, none⟩ = some (.string x.name) := (hb2.cell (by simp)).trans (by rw [World.cell?_alloc_mark]; rfl)
      have c3 : w2.cell? ⟨wr.heap.size, 3, none⟩ = some (.string x.text) := (hb2.cell (by simp)).trans (by rw [World.cell?_alloc_mark]; rfl)
      have c4 : w2.cell? ⟨wr.heap.size, 4, none⟩ = some (.slice ao al ac) := (hb2.cell (by simp)).trans (by rw [World.cell?_alloc_mark]; rfl)
      have HBW := Lib.hid hbw
      clear hbw
      by_cases hpz : pe = 0
      · subst hpz
        go_wp2_with fail
        refine (parts_any x ao al ac _ HT.out.nameSmall HT.out.textSmall (HA.out.below HBW.out)).mono ?_
        rintro e w3 ⟨rfl, hb3⟩
        have HB3 := Lib.hid hb3
        clear hb3
        by_cases hq : partsP x = 0
        · have HQ := Lib.hid hq
          have hq' : (partsP x != 0) = false := by rw [hq]; rfl
          clear hq
          go_wp2_with fail
          go_roundw
          case rel =>
            have ho : oneP k (L.getD (k - 1) default) x = 0 := by rw [hone.out, HQ.out]; simp
            refine ⟨k + 1, by omega, by go_num, ?_, fun _ => ?_, (hb.trans (HBW.out.mono hb.size)).trans (HB3.out.mono (by have := hb.size; omega))⟩
            · rw [← HC.out, hstep.out, if_neg (fun h => h ho)]
            · rw [Nat.add_sub_cancel, ← HX.out]; exact oneP_level ho
          case measure => simp [intOf]; omega
        · have hq' : (partsP x != 0) = true := by simpa using hq
          have HQ := Lib.hid hq
          clear hq
          go_wp2_with fail
          go_ret2
          have ho : oneP k (L.getD (k - 1) default) x = partsP x := by rw [hone.out]; simp
          refine ⟨?_, (hb.trans (HBW.out.mono hb.size)).trans (HB3.out.mono (by have := hb.size; omega))⟩
          rw [← HC.out, hstep.out, ho, if_pos HQ.out]
          rfl
      · have hpz' : (pe == 0) = false := by simpa using hpz
        have hpz2 : (pe != 0) = true := by simpa using hpz
        have HQ := Lib.hid hpz
        clear hpz
        go_wp2_with fail
        go_ret2
        have ho : oneP k (L.getD (k - 1) default) x = pe := by rw [hone.out, if_pos HQ.out]
        refine ⟨?_, hb.trans (HBW.out.mono hb.size)⟩
        rw [← HC.out, hstep.out, ho, if_pos HQ.out]
        rfl
    · obtain rfl : k = len := by omega
      have hf : Hid (checkFrom L k 0 = (0, 0)) := by rw [← HC.out, Nat.sub_self]; exact Lib.hid rfl
      go_wp2_with fail
      go_ret2
      rw [hf.out]
      exact ⟨rfl, hb⟩
set_option maxRecDepth 100000 in
set_option maxHeartbeats 400000 in
theorem check_none (a : Option Addr) (cap : Nat) (w : World) :
    Calls Try.prog 25 #[.slice a 0 cap] w fun e w' => e = .returned (.tuple #[.int .i64 0, .int .i64 40]) ∧ Below w.heap.size w w' := by
  go_enter Try.func25, Try.ntmps25
  go_wp2_with fail
  go_ret2
  exact ⟨rfl, Below.refl _ _⟩
/-- A slice of items. -/
def ItemsSl (w : World) (a : Option Addr) (len : Nat) (L : List Item) : Prop := len = L.length ∧ len ≤ 140737488351232 ∧ (0 < len → ∃ b off, a = some ⟨b, off, none⟩ ∧ ItemsAt w b off L)
theorem ItemsSl.below {w w' : World} {a : Option Addr} {len : Nat} {L : List Item} (h : ItemsSl w a len L) (hb : Below w.heap.size w w') : ItemsSl w' a len L := by
  obtain ⟨h1, h2, h3⟩ := h
  refine ⟨h1, h2, fun h0 => ?_⟩
  obtain ⟨b, off, ha, hi⟩ := h3 h0
  exact ⟨b, off, ha, hi.below hb⟩
theorem check_any (a : Option Addr) (len cap : Nat) (L : List Item) (w : World) (h : ItemsSl w a len L) :
    Calls Try.prog 25 #[.slice a len cap] w fun e w' => e = .returned (.tuple #[.int .i64 (checkP L).1, .int .i64 (checkP L).2]) ∧ Below w.heap.size w w' := by
  obtain ⟨h1, h2, h3⟩ := h
  by_cases h0 : 0 < len
  · obtain ⟨b, off, rfl, hi⟩ := h3 h0
    have e : checkP L = checkFrom L len 0 := by
      unfold checkP
      rw [if_neg (by intro h; rw [h] at h1; simp at h1; omega), h1]
    rw [e]
    exact check_some b off len cap L h1 h0 h2 w hi
  · obtain rfl : len = 0 := by omega
    have e : checkP L = (0, 40) := by
      unfold checkP
      rw [if_pos (List.eq_nil_of_length_eq_zero h1.symm)]
    rw [e]
    exact check_none a cap w
end Go.Proofs.Ytahdlbckcddeeaa
