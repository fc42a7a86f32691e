/- The walks of the nodes of version 2: checked and written. -/
import Derived.Test.YtbhmfbhfofgfaaaRecM
namespace Go.Proofs.Ytbhmfbhfofgfaaa
open Go.RowKit
attribute [local go_sem ↓] Go.wp_at_zero Go.wp_at_succ
structure NodeV where
  dense : Bool
  first : Int
  over : Int
  labs : List Int
  sl : List UInt8
def mostOf (dense : Bool) : Int := if dense then 65536 else 2048
def nFine (n : NodeV) : Bool := inB n.first (-1) (mostOf n.dense) && (inB n.over (-1) 65536 && (labFine n.labs && decide (n.sl.length = 48)))
/-- a node's bytes -/
def nB (n : NodeV) : List UInt8 := by8 1 (if n.dense then 1 else 0) ++ ptrs [n.first, n.over] ++ labB n.labs ++ n.sl
theorem nFine_bd {n : NodeV} (h : nFine n = true) : (-1 ≤ n.first ∧ n.first < mostOf n.dense) ∧ (-1 ≤ n.over ∧ n.over < 65536) ∧ labFine n.labs = true ∧ n.sl.length = 48 := by
  simp only [nFine, Bool.and_eq_true, inB_iff, decide_eq_true_eq] at h
  exact ⟨h.1, h.2.1, h.2.2.1, h.2.2.2⟩
theorem mostOf_le (b : Bool) : mostOf b ≤ 65536 := by cases b <;> decide
/-- the eight bytes behind k rounds -/
def eightAt (l : List Int) (k : Nat) : List UInt8 := (l.take k).map labByte ++ List.replicate (8 - k) 0
theorem eightAt_length (l : List Int) (k : Nat) (h : k ≤ l.length) (h8 : l.length ≤ 8) : (eightAt l k).length = 8 := by
  unfold eightAt; rw [List.length_append, List.length_map, List.length_take, List.length_replicate]; omega
theorem eightAt_next (l : List Int) (k : Nat) (h : k < l.length) (h8 : l.length ≤ 8) : (eightAt l k).set k (labByte (l.getD k 0)) = eightAt l (k + 1) := by
  unfold eightAt
  rw [List.set_append_right _ _ (by rw [List.length_map, List.length_take]; omega), List.length_map, List.length_take, show k - min k l.length = 0 by omega,
    show 8 - k = (8 - (k + 1)) + 1 by omega, List.replicate_succ, List.set_cons_zero, take_snoc l k h, List.map_append, List.append_assoc]
  simp [List.getD, h]
theorem eightAt_end (l : List Int) (h8 : l.length ≤ 8) : eightAt l l.length = labB l := by
  unfold eightAt labB; rw [List.take_of_length_le (Nat.le_refl _)]
theorem obj_bytes {w : World} {e T : Nat} {l : List UInt8} (h : w.heap[e]? = some (.cells (l.map B8).toArray T)) : Bytes w (some ⟨e, 0, none⟩) l := by
  refine Or.inr ⟨e, 0, rfl, fun j hj => ?_⟩
  rw [Nat.zero_add, cell_of_row w e j _ T _ h, List.getElem?_toArray]
  simp [List.getD, hj]
end Go.Proofs.Ytbhmfbhfofgfaaa
