/- THE PLAIN SIDE OF LAYER 14 (spans): the document that 'alive' asks about. -/
import Derived.Test.YtahdlbckcddeeaaSpansPlainG
namespace Go.Proofs.Ytahdlbckcddeeaa
open Go.RowKit
def aliveL : List Item := [⟨0, 1, ⟨#[97]⟩, ByteArray.empty, []⟩, ⟨1, 2, ByteArray.empty, ⟨#[120]⟩, []⟩]
theorem next_a : nextP [97] = (97, 1) := (nextG_eq [97]).symm.trans (by decide +kernel)
theorem next_x : nextP [120] = (120, 1) := (nextG_eq [120]).symm.trans (by decide +kernel)
theorem all_a : allP [97] = some [97] := by
  rw [allP_step (by simp) (by rw [next_a]; decide), next_a]
  show (allP []).map _ = _
  rw [allP_nil]; rfl
theorem all_x : allP [120] = some [120] := by
  rw [allP_step (by simp) (by rw [next_x]; decide), next_x]
  show (allP []).map _ = _
  rw [allP_nil]; rfl
theorem name_a : nameP [97] = true := by
  unfold nameP
  rw [Bool.and_eq_true]
  exact ⟨by decide, decide_eq_true ((namesFrom_zero 97 [] all_a).2 ⟨by decide, by decide⟩)⟩
theorem chars_x : charsP ⟨#[120]⟩ = 0 := by
  unfold charsP
  rw [show (⟨#[120]⟩ : ByteArray).data.toList = [120] from rfl]
  have : countP [120] = 1 := by unfold countP countFrom; rw [all_x]; rfl
  rw [this]; rfl
theorem alive_ok : (checkP aliveL).2 = 0 := by
  have h0 : oneP 0 (aliveL.getD (0 - 1) default) (aliveL.getD 0 default) = 0 := by
    show (if place0 0 1 ≠ 0 then place0 0 1 else partsP ⟨0, 1, ⟨#[97]⟩, ByteArray.empty, []⟩) = 0
    have : place0 0 1 = 0 := by decide
    rw [this, if_neg (by decide)]
    unfold partsP
    rw [if_neg (by decide), if_neg (by decide)]
    show valuesP (namesP _) [] = 0
    unfold valuesP namesP
    rw [show (⟨0, 1, ⟨#[97]⟩, ByteArray.empty, []⟩ : Item).name.data.toList = [97] from rfl, name_a]
    simp [namesB]
  have h1 : oneP 1 (aliveL.getD (1 - 1) default) (aliveL.getD 1 default) = 0 := by
    show (if place1 1 0 1 1 ≠ 0 then place1 1 0 1 1 else partsP ⟨1, 2, ByteArray.empty, ⟨#[120]⟩, []⟩) = 0
    have : place1 1 0 1 1 = 0 := by decide
    rw [this, if_neg (by decide)]
    unfold partsP
    rw [if_pos (by decide)]
    exact chars_x
  unfold checkP
  rw [if_neg (by unfold aliveL; simp)]
  show (checkFrom aliveL 2 0).2 = 0
  unfold checkFrom
  rw [if_neg (by rw [h0]; decide)]
  unfold checkFrom
  rw [if_neg (by rw [h1]; decide)]
  rfl
theorem alive_label : labelP aliveL = [(1099511627776, 4398046511104), (2199023255552, 3298534883328)] := by decide +kernel
end Go.Proofs.Ytahdlbckcddeeaa
