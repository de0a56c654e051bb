/- LAYER 15 (lexicon): Clone. -/
import Derived.Test.YtoflicfghonhcaaLexZ
import Derived.Laws.Externs
import Derived.MapKept
import Derived.Laws.Cover3
import Derived.Deep.RegionHeld3
namespace Go.Proofs.Ytoflicfghonhcaa
open Go.RowKit Go.WideMaps Go.Maps
set_option linter.unusedVariables false
theorem run_equalIn_map_nil (d : Nat) (w : World) (p : Option Nat) : (Op.equalIn (d + 1) 59 (.map p) (.map none)).run Try.prog w = .ok p.isNone w := by
  cases p <;> simp [Op.equalIn, run_underlying Try.underlying59]
set_option maxRecDepth 100000 in
theorem run_eql_map_nil (w : World) (p : Option Nat) : (binOp .eql 59 (.map p) (.map none)).run Try.prog w = .ok (.bool p.isNone) w := by
  simp only [binOp]
  simp [show Op.equal 59 (.map p) (.map none) = Op.equalIn (9999 + 1) 59 (.map p) (.map none) from rfl, run_equalIn_map_nil 9999 w p]
theorem run_assert_map (w : World) (v : Value) (xT : TypeId) : (Instr.typeAssert (.iface 59 v) xT 59 false).run Try.prog w = .ok v w := by
  simp [Instr.typeAssert, run_underlying Try.underlying59, go_sem, Result.andThen]
theorem run_clone_map (w : World) {r : Nat} {es : Array MapEntry} {clock : Nat} (t : TypeId) (hb : w.heap[r]? = some (.map es clock)) :
    (Extern.MapsClone.clone #[.iface t (.map (some r))]).run Try.prog w = .ok (.iface t (.map (some w.heap.size))) (w.alloc (.map es clock)) := by
  have e : Extern.MapsClone.clone #[.iface t (.map (some r))] = (getObj r >>= fun o => match o with
      | .map entries clock => (newObj (.map entries clock) >>= fun n => pure (.iface t (.map (some n))))
      | _ => stuck "maps.clone: a map expected") := rfl
  rw [e]
  simp [MapKept.run_getObj_map hb, Result.andThen, go_sem]
set_option maxRecDepth 100000 in
theorem mclone_any {mb n : Nat} {f : ByteArray → Option Nat} {cnt : Nat} {w : World} (h : NumsAt w mb n f cnt) :
    Calls Try.prog 37 #[.map (some mb)] w fun e w' => ∃ mb', e = .returned (.map (some mb')) ∧ NumsAt w' mb' n f cnt ∧ w.heap.size ≤ mb' ∧ Below w.heap.size w w' := by
  obtain ⟨D, ⟨es, clock, hh, r⟩, h2⟩ := h
  have hq := fun w => run_eql_map_nil w (some mb)
  have hnew : NumsAt (w.alloc (.map es clock)) w.heap.size n f cnt := ⟨D, ⟨es, clock, (MapKept.heap_alloc w _).1, r⟩, h2⟩
  have HNEW := Lib.hid hnew
  clear h2 hnew r
  go_enter Try.func37, Try.ntmps37
  go_wp2
  rw [run_callFunc_extern Try.func45 (by kernel_rfl) (by kernel_rfl) (by kernel_rfl) (e := Extern.MapsClone.clone) (by kernel_rfl), run_clone_map w 59 hh]
  simp only [Result.andThen]
  rw [Oper.upon_value]
  go_wp2
  rw [run_assert_map]
  simp only [Result.andThen]
  rw [Oper.upon_value]
  go_wp2
  go_ret
  exact ⟨_, rfl, HNEW.out, Nat.le_refl _, (Below.refl _ _).alloc (Nat.le_refl _) _⟩
theorem run_eql_words_nil (w : World) (a : Option Addr) (l c : Nat) : (binOp .eql 60 (.slice a l c) (.slice none 0 0)).run Try.prog w = .ok (.bool a.isNone) w := by
  simp only [binOp]
  simp [run_equal_slice_nil (P := Try.prog) w 60 65 a l c Try.underlying60]
theorem wordCells_one (l : WS) : ∀ u ∈ wordCells l, u.oneCell' = true := by
  intro u hu
  obtain ⟨x, _, hx⟩ := List.mem_flatMap.1 hu
  simp at hx
  rcases hx with rfl | rfl <;> rfl
set_option maxRecDepth 100000 in
theorem sclone_any {B : Nat} {vw : Value} {ws : WS} {w : World} (h : OwnS w B 65 2 vw ws.length (wordCells ws)) (hw : ws.length ≤ 100000) :
    Calls Try.prog 36 #[vw] w fun e w' => ∃ v, e = .returned v ∧ OwnS w' w.heap.size 65 2 v ws.length (wordCells ws) ∧ Below w.heap.size w w' := by
  obtain ⟨k0, hk1, hk2, hk3, hk4⟩ := info_parts infoWord
  have hq := fun w a l c => run_eql_words_nil w a l c
  rcases h.2 with ⟨rfl, h0⟩ | ⟨g, cap, cur, rfl, hg, hh, hn, hc, hcs, ht2⟩
  · have e0 : wordCells ws = [] := List.eq_nil_of_length_eq_zero (by rw [wordCells_len, h0])
    rw [h0, e0]
    clear h
    go_enter Try.func36, Try.ntmps36
    go_wp2_with fail
    go_ret
    exact ⟨_, rfl, OwnS.nil _ _ _ _, Below.refl _ _⟩
  · have HO := Lib.hid h
    clear h hh ht2
    go_enter Try.func36, Try.ntmps36
    go_wp2_with (at_builtin; refine wpList_append_rows _ rfl _ _ 60 rfl w.heap.size 65 k0 (.agg #[.string ByteArray.empty, .int .i64 0]) 2 24 Try.underlying60 hk1 hk2 hk3 hk4 rfl (by decide) _ _ _ rfl (ownS_empty w w.heap.size 65 2 (Nat.le_refl _)) B _ ws.length (wordCells ws) rfl (OwnS.alloc HO.out _) (wordCells_one ws) ?c3 ?c4 ?c5 ?_)
    case c3 => unfold maxLen; omega
    case c4 => omega
    case c5 => first | omega | (simp; done) | (simp; omega)
    intro v1 wa hown1 hgrow1
    have hb2 := below_grown (B := w.heap.size) ((Below.refl w.heap.size w).alloc (Nat.le_refl _) (.cells #[] 65)) (ownS_empty w w.heap.size 65 2 (Nat.le_refl _)) hgrow1 (by simp) (Nat.le_refl _)
    have HOW : Hid (OwnS wa w.heap.size 65 2 v1 ws.length (wordCells ws)) := Lib.hid (by simpa using hown1)
    clear hown1 hgrow1
    go_wp2_with fail
    go_ret
    exact ⟨_, rfl, HOW.out, hb2⟩
set_option maxRecDepth 100000 in
set_option maxHeartbeats 1000000 in
theorem clone_any {B p mb n : Nat} {vw : Value} {ws : WS} {f : ByteArray → Option Nat} {cnt : Nat} {w : World} (h : BookAt w B p vw mb n ws f cnt) (hw : ws.length ≤ 100000) :
    Calls Try.prog 22 #[.pointer (some ⟨p, 0, none⟩)] w fun e w' => ∃ p' v' mb', e = .returned (.pointer (some ⟨p', 0, none⟩)) ∧ BookAt w' w.heap.size p' v' mb' n ws f cnt ∧ Below w.heap.size w w' := by
  obtain ⟨c0, c1⟩ := h.cell0
  obtain ⟨va, vc, rfl⟩ := h.own.len
  have HS := Lib.hid (fun w' (hb : Below w.heap.size w w') => sclone_any (h.own.below hb) hw)
  have HM := Lib.hid (fun w' (hb : Below w.heap.size w w') => mclone_any (h.nums.below hb))
  have HKS : Hid (∀ w' w2 : World, (w'.cell? ⟨p, 0, none⟩ = some (.slice va ws.length vc) ∧ w'.cell? ⟨p, 1, none⟩ = some (.map (some mb)) ∧ Below w.heap.size w w') → Below w'.heap.size w' w2 → (w2.cell? ⟨p, 0, none⟩ = some (.slice va ws.length vc) ∧ w2.cell? ⟨p, 1, none⟩ = some (.map (some mb)) ∧ Below w.heap.size w w2)) := Lib.hid fun w' w2 h1 h2 => ⟨(h2.cell (by exact block_lt_of_cell h1.1)).trans h1.1, (h2.cell (by exact block_lt_of_cell h1.2.1)).trans h1.2.1, h1.2.2.trans (h2.mono h1.2.2.size)⟩
  clear h
  go_enter Try.func22, Try.ntmps22
  go_wp2_with fail
  go_region_held3 (fun w' => w'.cell? ⟨p, 0, none⟩ = some (.slice va ws.length vc) ∧ w'.cell? ⟨p, 1, none⟩ = some (.map (some mb)) ∧ Below w.heap.size w w')
    (first | exact HKS.out _ _ (by assumption) (by assumption) | exact HKS.out _ _ (by assumption) ((Below.refl _ _).alloc (Nat.le_refl _) _) | exact ⟨c0, c1, (Below.refl _ _).drew⟩ | go_keep)
    (first | (go_at_call 36; refine (HS.out _ (And.right (And.right (by assumption)))).mono ?_; rintro e wS ⟨v', rfl, hoS, hbS⟩; obtain ⟨va', vc', rfl⟩ := hoS.len) | (go_at_call 37; refine (HM.out _ (And.right (And.right (by assumption)))).mono ?_; rintro e wM ⟨mb', rfl, hnM, hmM, hbM⟩))
  have hmW := Nat.le_refl w.heap.size
  have hbS' : Below w.heap.size w wS := Below.trans ((Below.refl _ _).drew) hbS
  have hbM' : Below w.heap.size w wM := hbS'.trans (hbM.mono hbS'.size)
  have hB : BookAt (wM.alloc (.cells #[.slice va' ws.length vc', .map (some mb')] 62)) w.heap.size wM.heap.size (.slice va' ws.length vc') mb' n ws f cnt :=
    ⟨heap_alloc_new _ _, (OwnS.mono (hoS.below hbM) (Nat.le_refl _)).alloc _, hnM.below ((Below.refl _ _).alloc (Nat.le_refl _) _), hbM'.size, Nat.le_trans hbS'.size hmM⟩
  have HB := Lib.hid hB
  clear hB
  go_wp2_with fail
  go_ret
  exact ⟨_, _, _, rfl, HB.out, hbM'.alloc hbM'.size _⟩
theorem clone_L {w : World} {B p K : Nat} {ws : WS} {l : List DW} (h : BookL w B p K ws l) (hK : K ≤ 50000) : Calls Try.prog 22 #[.pointer (some ⟨p, 0, none⟩)] w fun e w' => ∃ p', e = .returned (.pointer (some ⟨p', 0, none⟩)) ∧ BookL w' w.heap.size p' K ws l ∧ Below w.heap.size w w' := by
  obtain ⟨vw, mb, n, f, h1, h2, h3, h4⟩ := h
  refine (clone_any h1 (by have := h2.len; omega)).mono ?_
  rintro e w' ⟨p', v', mb', rfl, hB, hb⟩
  exact ⟨p', rfl, ⟨v', mb', n, f, hB, h2, h3, h4⟩, hb⟩
end Go.Proofs.Ytoflicfghonhcaa
