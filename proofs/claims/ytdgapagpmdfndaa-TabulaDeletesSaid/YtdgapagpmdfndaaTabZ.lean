/- LAYER 13 (tabula): a table with its rows; a call on it, and on the document's. -/
import Derived.Test.YtdgapagpmdfndaaTabS
import Derived.Test.YtdgapagpmdfndaaTabY
namespace Go.Proofs.Ytdgapagpmdfndaa
open Go.RowKit
set_option linter.unusedVariables false
/-- A table (block t, memory from B on) that holds l; its blocks are F. -/
def TabL (w : World) (B t : Nat) (l : List Row) (F : Nat → Prop) : Prop := ∃ (h : Nat) (k : Kid), TabAt w B 1 h t k ∧ k.L = l ∧ h + 1 ≤ 2 + halvesN l.length ∧ F = tabF t k
theorem TabL.lt {w : World} {B t : Nat} {l : List Row} {F : Nat → Prop} (h : TabL w B t l F) (x : Nat) (hx : F x) : x < w.heap.size ∧ B ≤ x := by
  obtain ⟨_, k, ha, _, _, rfl⟩ := h
  exact ha.lt x hx
theorem TabL.below {w w' : World} {B t : Nat} {l : List Row} {F : Nat → Prop} (h : TabL w B t l F) (hb : Below w.heap.size w w') : TabL w' B t l F := by
  obtain ⟨d, k, ha, h1, h2, rfl⟩ := h
  exact ⟨d, k, ha.below hb, h1, h2, rfl⟩
theorem TabL.srt {w : World} {B t : Nat} {l : List Row} {F : Nat → Prop} (h : TabL w B t l F) : Sorted l := by
  obtain ⟨d, k, ha, rfl, _, _⟩ := h
  exact ha.srt
theorem TabL.many {w : World} {B t : Nat} {l : List Row} {F : Nat → Prop} (h : TabL w B t l F) : l.length ≤ 900000 := by
  obtain ⟨d, k, ha, rfl, _, _⟩ := h
  exact ha.many
theorem TabL.frm {w w' : World} {B t : Nat} {l : List Row} {F G : Nat → Prop} (h : TabL w B t l F) (hf : Frm G w w') (hd : ∀ x, F x → ¬ G x) : TabL w' B t l F := by
  obtain ⟨d, k, ha, h1, h2, rfl⟩ := h
  exact ⟨d, k, ha.frm hf hd, h1, h2, rfl⟩
/-- What a writing call on a table leaves. -/
def StepOk (w w' : World) (B t : Nat) (F : Nat → Prop) (l' : List Row) : Prop := ∃ F', TabL w' B t l' F' ∧ (∀ x, F' x → F x ∨ w.heap.size ≤ x) ∧ Frm F w w'
theorem PutT.step {w w' : World} {B t : Nat} {k : Kid} {l' : List Row} (h : PutT w w' B 1 t k l') : StepOk w w' B t (tabF t k) l' := by
  obtain ⟨h', k', ha, hl, hd, hF, hf⟩ := h
  refine ⟨tabF t k', ⟨h', k', ha, hl, hd, rfl⟩, fun x hx => ?_, hf⟩
  rcases hx with hx | hx
  · exact .inl (.inl hx)
  · exact (hF x hx).imp .inr id
theorem new_L (w : World) (B : Nat) (hB : B ≤ w.heap.size) : Calls Try.prog 10 #[] w fun e w' => ∃ (t : Nat) (F : Nat → Prop), e = .returned (.pointer (some ⟨t, 0, none⟩)) ∧ TabL w' B t [] F ∧ (∀ x, F x → w.heap.size ≤ x) ∧ Below w.heap.size w w' :=
  (new_any w B 1 hB).mono fun e w' ⟨t, k, he, ha, hl, hF, hb⟩ => ⟨t, tabF t k, he, ⟨0, k, ha, hl, by omega, rfl⟩, hF, hb⟩
theorem put_L {w : World} {B t : Nat} {l : List Row} {F : Nat → Prop} (h : TabL w B t l F) (hm : l.length < 900000) (hB : B ≤ w.heap.size) (key v : Int) :
    Calls Try.prog 14 #[.pointer (some ⟨t, 0, none⟩), .int .i64 key, .int .i64 v] w fun e w' => e = .returned (.tuple #[.int .i64 ((getL l key).getD 0), .bool (getL l key).isSome]) ∧ StepOk w w' B t F (insL l key v) := by
  obtain ⟨d, k, ha, rfl, hd, rfl⟩ := h
  exact (putT_any ha hd hm hB key v).mono fun e w' ⟨he, hp⟩ => ⟨he, hp.step⟩
theorem del_L {w : World} {B t : Nat} {l : List Row} {F : Nat → Prop} (h : TabL w B t l F) (hB : B ≤ w.heap.size) (key : Int) :
    Calls Try.prog 17 #[.pointer (some ⟨t, 0, none⟩), .int .i64 key] w fun e w' => e = .returned (.tuple #[.int .i64 ((getL l key).getD 0), .bool (getL l key).isSome]) ∧ StepOk w w' B t F (delL l key) := by
  obtain ⟨d, k, ha, rfl, hd, rfl⟩ := h
  exact (delT_any ha hd hB key).mono fun e w' ⟨he, hp⟩ => ⟨he, hp.step⟩
theorem len_L {w : World} {B t : Nat} {l : List Row} {F : Nat → Prop} (h : TabL w B t l F) : Calls Try.prog 21 #[.pointer (some ⟨t, 0, none⟩)] w fun e w' => e = .returned (.int .i64 (l.length : Nat)) ∧ w' = w := by
  obtain ⟨d, k, ha, rfl, hd, rfl⟩ := h
  exact len_any ha
theorem depth_L {w : World} {B t : Nat} {l : List Row} {F : Nat → Prop} (h : TabL w B t l F) : ∃ d : Nat, d ≤ 2 + halvesN l.length ∧ Calls Try.prog 32 #[.pointer (some ⟨t, 0, none⟩)] w fun e w' => e = .returned (.int .i64 (d : Int)) ∧ w' = w := by
  have hm := h.many
  obtain ⟨d, k, ha, rfl, hd, rfl⟩ := h
  exact ⟨d + 1, hd, depth_any (by omega) ha (by have := halvesN_le k.L.length; omega)⟩
theorem rank_L {w : World} {B t : Nat} {l : List Row} {F : Nat → Prop} (h : TabL w B t l F) (key : Int) : Calls Try.prog 20 #[.pointer (some ⟨t, 0, none⟩), .int .i64 key] w fun e w' => e = .returned (.int .i64 (rankL l key : Nat)) ∧ Below w.heap.size w w' := by
  obtain ⟨d, k, ha, rfl, hd, rfl⟩ := h
  exact rank_any (by omega) ha key
theorem at_L {w : World} {B t : Nat} {l : List Row} {F : Nat → Prop} (h : TabL w B t l F) (n : Int) : Calls Try.prog 19 #[.pointer (some ⟨t, 0, none⟩), .int .i64 n] w fun e w' => e = .returned (atR (atV l n)) ∧ Below w.heap.size w w' := by
  obtain ⟨d, k, ha, rfl, hd, rfl⟩ := h
  exact at_any (by omega) ha n
theorem next_L {w : World} {B t : Nat} {l : List Row} {F : Nat → Prop} (h : TabL w B t l F) (key : Int) : Calls Try.prog 23 #[.pointer (some ⟨t, 0, none⟩), .int .i64 key] w fun e w' => e = .returned (atR (atV l (rankL l key : Nat))) ∧ Below w.heap.size w w' := by
  obtain ⟨d, k, ha, rfl, hd, rfl⟩ := h
  exact next_any (by omega) ha key
theorem back_L {w : World} {B t : Nat} {l : List Row} {F : Nat → Prop} (h : TabL w B t l F) (key : Int) : Calls Try.prog 24 #[.pointer (some ⟨t, 0, none⟩), .int .i64 key] w fun e w' => e = .returned (atR (backV l key)) ∧ Below w.heap.size w w' := by
  obtain ⟨d, k, ha, rfl, hd, rfl⟩ := h
  exact back_any (by omega) ha key
theorem get_L {w : World} {B t : Nat} {l : List Row} {F : Nat → Prop} (h : TabL w B t l F) (key : Int) : Calls Try.prog 22 #[.pointer (some ⟨t, 0, none⟩), .int .i64 key] w fun e w' => e = .returned (.tuple #[.int .i64 ((getL l key).getD 0), .bool (getL l key).isSome]) ∧ Below w.heap.size w w' := by
  obtain ⟨d, k, ha, rfl, hd, rfl⟩ := h
  exact get_any (by omega) ha key
/-- A call: its kind, its key, its value. -/
abbrev TOp := Int × Int × Int
def opV (o : TOp) : Value := .agg #[.int .i64 o.1, .int .i64 o.2.1, .int .i64 o.2.2]
def stepL (l : List Row) (o : TOp) : List Row := if o.1 = 0 then insL l o.2.1 o.2.2 else if o.1 = 1 then delL l o.2.1 else l
def stepV (l : List Row) (o : TOp) : Int × Bool := if o.1 = 0 ∨ o.1 = 1 then ((getL l o.2.1).getD 0, (getL l o.2.1).isSome) else (0, false)
theorem stepL_len {l : List Row} (h : Sorted l) (o : TOp) : (stepL l o).length ≤ l.length + 1 := by
  unfold stepL
  split
  · exact (insL_len h _ _).2
  · split
    · exact Nat.le_succ_of_le (List.length_filter_le _ _)
    · exact Nat.le_succ _
set_option maxRecDepth 100000 in
set_option maxHeartbeats 1000000 in
theorem does_L {w : World} {B t : Nat} {l : List Row} {F : Nat → Prop} (h : TabL w B t l F) (hm : l.length < 900000) (hB : B ≤ w.heap.size) (o : TOp) :
    Calls Try.prog 31 #[.pointer (some ⟨t, 0, none⟩), opV o] w fun e w' => e = .returned (.tuple #[.int .i64 (stepV l o).1, .bool (stepV l o).2]) ∧ StepOk w w' B t F (stepL l o) := by
  obtain ⟨o1, o2, o3⟩ := o
  have hbx : Below w.heap.size w (w.alloc (.cells #[.int .i64 o1, .int .i64 o2, .int .i64 o3] 63)) := (Below.refl _ _).alloc (Nat.le_refl _) _
  have hbx2 := (hbx.mono (Nat.le_refl _)).size
  have HT := Lib.hid (h.below hbx)
  have hst : ∀ w' l', StepOk (w.alloc (.cells #[.int .i64 o1, .int .i64 o2, .int .i64 o3] 63)) w' B t F l' → StepOk w w' B t F l' := fun w' l' ⟨F', h1, h2, h3⟩ =>
    ⟨F', h1, fun x hx => (h2 x hx).imp id fun h => Nat.le_trans hbx2 h, (Frm.of_below hbx).then h3 fun x _ hx => hx⟩
  have HST := Lib.hid hst
  have hno : StepOk w (w.alloc (.cells #[.int .i64 o1, .int .i64 o2, .int .i64 o3] 63)) B t F l := ⟨F, HT.out, fun x hx => .inl hx, Frm.of_below hbx⟩
  have HNO := Lib.hid hno
  have hB2 := Nat.le_trans hB hbx2
  clear h hst hno hbx
  unfold opV
  by_cases h0 : o1 = 0
  · subst h0
    have H := Lib.hid (put_L HT.out hm hB2 o2 o3)
    simp only [stepV, stepL, true_or, if_true]
    go_enter Try.func31, Try.ntmps31
    go_wp2_with fail
    refine H.out.mono ?_
    rintro e w2 ⟨rfl, hs2⟩
    have HS2 := Lib.hid hs2
    clear hs2
    go_wp2_with fail
    go_ret2
    exact ⟨rfl, HST.out _ _ HS2.out⟩
  · by_cases h1 : o1 = 1
    · subst h1
      have H := Lib.hid (del_L HT.out hB2 o2)
      simp only [stepV, stepL, or_true, if_true, if_neg h0]
      go_enter Try.func31, Try.ntmps31
      go_wp2_with fail
      refine H.out.mono ?_
      rintro e w2 ⟨rfl, hs2⟩
      have HS2 := Lib.hid hs2
      clear hs2
      go_wp2_with fail
      go_ret2
      exact ⟨rfl, HST.out _ _ HS2.out⟩
    · simp only [stepV, stepL, h0, h1, or_self, if_false]
      have hb0 : (o1 == 0) = false := by simpa using h0
      have hb1 : (o1 == 1) = false := by simpa using h1
      go_enter Try.func31, Try.ntmps31
      go_wp2_with fail
      go_ret2
      exact ⟨rfl, HNO.out⟩
end Go.Proofs.Ytdgapagpmdfndaa
