/- LAYER 15 (lexicon): names of small letters; alive. -/
import Derived.Test.YtoflicfghonhcaaLexU
namespace Go.Proofs.Ytoflicfghonhcaa
open Go.RowKit Go.WideMaps Go.Maps
set_option linter.unusedVariables false
theorem next_ascii (a : UInt8) (l : List UInt8) (h : charB (a.toNat : Int) = true) (h2 : a.toNat < 128) : nextP (a :: l) = ((a.toNat : Int), 1) := by
  have e : putL (a.toNat : Int) = [a] := by
    have : (a.toNat : Int) < 128 := by omega
    simp [putL, putV, this, toU8]
  have := nextP_yes (l := a :: l) (c := (a.toNat : Int)) ⟨h, l, by rw [e]; rfl⟩
  rw [this, e]; rfl
theorem all_lower (l : List UInt8) (h : ∀ a ∈ l, 97 ≤ a.toNat ∧ a.toNat ≤ 122) : allP l = some (l.map (fun a => (a.toNat : Int))) := by
  induction l with
  | nil => rw [allP_nil]; rfl
  | cons a r ih =>
    have ha := h a (by simp)
    have hn := next_ascii a r ((charB_iff _).2 (by omega)) (by omega)
    rw [allP_step (by simp) (by rw [hn]; simp), hn]
    show (allP r).map _ = _
    rw [ih (fun x hx => h x (by simp [hx]))]
    rfl
theorem name_lower (l : List UInt8) (h0 : l ≠ []) (h1 : l.length ≤ 60) (h : ∀ a ∈ l, 97 ≤ a.toNat ∧ a.toNat ≤ 122) : nameP l = true := by
  match l, h0 with
  | a :: r, _ =>
    have hm := all_lower (a :: r) h
    rw [List.map_cons] at hm
    have ha := h a (by simp)
    have hs : startB (a.toNat : Int) = true := (startB_iff _).2 (by omega)
    have hp : 0 < namesFrom 0 (a :: r) := (namesFrom_zero _ _ hm).2 ⟨hs, by
      rw [List.all_eq_true]
      intro x hx
      rcases List.mem_cons.1 hx with rfl | hx
      · exact start_part hs
      · obtain ⟨b, hb, rfl⟩ := List.mem_map.1 hx
        have := h b (by simp [hb])
        exact start_part ((startB_iff _).2 (by omega))⟩
    unfold nameP
    rw [decide_eq_true hp, Bool.and_true]
    have : 1 ≤ (a :: r).length := by simp
    simp only [decide_eq_true_eq]
    omega
theorem isLeast_unique {l : List DW} {a b : Nat} (ha : IsLeast l a) (hb : IsLeast l b) : a = b := by
  rcases Nat.lt_trichotomy a b with h | h | h
  · obtain ⟨x, hx, e⟩ := hb.least a ha.pos h
    exact absurd e (ha.free x hx)
  · exact h
  · obtain ⟨x, hx, e⟩ := ha.least b hb.pos h
    exact absurd e (hb.free x hx)
/-- A new name. -/
theorem addD_new {N : Nat} {l : List DW} {s : ByteArray} (hn : nameP s.data.toList = true) (hp : placeD (nameAt s) l = -1) (hl : l.length < 4000) : addD N l s = (l ++ [(s, N, 1)], (N : Int), 0) := by
  unfold addD; rw [if_neg (by simp [hn]), if_neg (by omega), if_neg (by omega)]
theorem alive_least1 : IsLeast [] 1 := ⟨Nat.le_refl _, fun x hx => (by cases hx), fun n h1 h2 => by omega⟩
theorem alive_least2 (s : ByteArray) : IsLeast [(s, 1, 1)] 2 := ⟨by omega, fun x hx => (by obtain rfl := List.mem_singleton.1 hx; simp), fun n h1 h2 => ⟨_, List.mem_singleton.2 rfl, by dsimp only; omega⟩⟩
theorem alive_place : placeD (nameAt ⟨#[98]⟩) [(⟨#[97]⟩, 1, 1)] = -1 := by decide
theorem alive_name : nameD [(⟨#[97]⟩, 1, 1), (⟨#[98]⟩, 2, 1)] 2 = (⟨#[98]⟩, true) := by decide
theorem alive_drop : dropT [(⟨#[97]⟩, 1, 1), (⟨#[98]⟩, 2, 1)] 1 = ([(⟨#[98]⟩, 2, 1)], true) := by decide
theorem alive_a : nameP (⟨#[97]⟩ : ByteArray).data.toList = true := name_lower _ (by simp) (by simp) (by decide)
theorem alive_b : nameP (⟨#[98]⟩ : ByteArray).data.toList = true := name_lower _ (by simp) (by simp) (by decide)
set_option maxRecDepth 100000 in
set_option maxHeartbeats 1000000 in
theorem alive_any (w : World) : Calls Try.prog 11 #[] w fun e w' => e = .returned (.bool true) ∧ Below w.heap.size w w' := by
  go_enter Try.func11, Try.ntmps11
  go_wp2_with fail
  refine (new_L w).mono ?_
  rintro e w1 ⟨p, rfl, H1, hb1⟩
  have H1 := Lib.hid H1
  go_wp2_with fail
  refine (add_L H1.out (by omega) ⟨#[97]⟩ (by decide)).mono ?_
  rw [addD_new alive_a rfl (by simp), isLeast_unique H1.out.docs.2.2.1 alive_least1]
  rintro e w2 ⟨rfl, ⟨ws2, H2⟩, hb2⟩
  have H2 : Hid (BookL w2 w.heap.size p 1 ws2 [(⟨#[97]⟩, 1, 1)]) := Lib.hid H2
  have ht := hb1.trans hb2.below
  clear hb1 hb2 H1
  go_wp2_with fail
  refine (add_L H2.out (by omega) ⟨#[98]⟩ (by decide)).mono ?_
  rw [addD_new alive_b alive_place (by simp), isLeast_unique H2.out.docs.2.2.1 (alive_least2 _)]
  rintro e w3 ⟨rfl, ⟨ws3, H3⟩, hb3⟩
  have H3 : Hid (BookL w3 w.heap.size p 2 ws3 [(⟨#[97]⟩, 1, 1), (⟨#[98]⟩, 2, 1)]) := Lib.hid H3
  have ht := ht.trans hb3.below
  clear hb3 H2
  go_wp2_with fail
  refine (name_L H3.out (by omega) 2).mono ?_
  rw [alive_name]
  rintro e w4 ⟨rfl, hb4⟩
  have H4 := Lib.hid (H3.out.below hb4)
  have ht := ht.trans (hb4.mono ht.size)
  clear H3 hb4
  go_wp2_with fail
  refine (drop_L H4.out (by omega) 1).mono ?_
  rw [alive_drop]
  rintro e w5 ⟨rfl, ⟨ws5, H5⟩, hb5⟩
  have H5 := Lib.hid H5
  have ht := ht.trans hb5.below
  clear H4 hb5
  go_wp2_with fail
  refine (len_L H5.out).mono ?_
  rintro e w6 ⟨rfl, rfl⟩
  go_wp2_with fail
  go_ret
  exact ⟨rfl, ht⟩
end Go.Proofs.Ytoflicfghonhcaa
