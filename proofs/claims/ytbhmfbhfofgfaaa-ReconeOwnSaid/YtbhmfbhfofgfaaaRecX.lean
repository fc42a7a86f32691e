/- Nodes of version 2: the comparison, and what is read of what was written. -/
import Derived.Test.YtbhmfbhfofgfaaaRecV
import Derived.Test.YtbhmfbhfofgfaaaRecP
namespace Go.Proofs.Ytbhmfbhfofgfaaa
open Go.RowKit
attribute [local go_sem ↓] Go.wp_at_zero Go.wp_at_succ
theorem lab_nz {x : Int} (h0 : 0 ≤ x) (h1 : x < 200) : (labByte x != 0) = true := by
  rw [bne_iff_ne]
  intro e
  have := congrArg UInt8.toNat e
  unfold labByte at this
  simp at this
  omega
theorem lab_back {x : Int} (h0 : 0 ≤ x) (h1 : x < 200) : ((labByte x).toNat : Int) - 1 = x := by
  unfold labByte
  simp
  omega
theorem zeros_tw (n : Nat) : (List.replicate n (0 : UInt8)).takeWhile (· != 0) = [] := by
  cases n
  · rfl
  · rw [List.replicate_succ, List.takeWhile_cons_of_neg (by simp)]
theorem zeros_dw (n : Nat) : (List.replicate n (0 : UInt8)).dropWhile (· != 0) = List.replicate n 0 := by
  cases n
  · rfl
  · rw [List.replicate_succ, List.dropWhile_cons_of_neg (by simp)]
theorem labs_nz {l : List Int} (h : ∀ x ∈ l, 0 ≤ x ∧ x < 200) : ∀ c ∈ l.map labByte, (c != 0) = true := by
  intro c hc
  obtain ⟨x, hx, rfl⟩ := List.mem_map.1 hc
  exact lab_nz (h x hx).1 (h x hx).2
theorem labsOf_labB {l : List Int} (h : ∀ x ∈ l, 0 ≤ x ∧ x < 200) : labsOf (labB l) = l := by
  unfold labsOf labB
  rw [List.takeWhile_append_of_pos (labs_nz h), zeros_tw, List.append_nil, List.map_map]
  conv => rhs; rw [← List.map_id l]
  exact List.map_congr_left fun x hx => lab_back (h x hx).1 (h x hx).2
theorem gapOk_labB {l : List Int} (h : ∀ x ∈ l, 0 ≤ x ∧ x < 200) : gapOk (labB l) = true := by
  unfold gapOk labB
  rw [List.dropWhile_append_of_pos (labs_nz h), zeros_dw]
  simp
theorem nB_length (n : NodeV) (h : nFine n = true) : (nB n).length = 65 := by
  obtain ⟨_, _, hl, hs⟩ := nFine_bd h
  unfold nB
  simp only [List.length_append, by8_length, ptrs_length, labB_length _ (labFine_bd hl).2, hs]
  simp
theorem nDec_nB (n : NodeV) (h : nFine n = true) : nDec (nB n) = n := by
  obtain ⟨⟨a1, a2⟩, ⟨b1, b2⟩, c1, d1⟩ := nFine_bd h
  have hm := mostOf_le n.dense
  obtain ⟨lr, l8⟩ := labFine_bd c1
  have p4 : (256 : Nat) ^ 4 = 4294967296 := by simp
  have p1 : (256 : Nat) ^ 1 = 256 := by simp
  have k1 := nm_of (nB n) [] (ptrs [n.first, n.over] ++ labB n.labs ++ n.sl) (if n.dense then 1 else 0) 0 1 (by simp [nB]) rfl (by split <;> omega)
  have k2 := nm_of (nB n) (by8 1 (if n.dense then 1 else 0)) (ptrs [n.over] ++ labB n.labs ++ n.sl) (n.first + 1).toNat 1 4 (by simp [nB, ptrs]) (by8_length _ _) (by omega)
  have k3 := nm_of (nB n) (by8 1 (if n.dense then 1 else 0) ++ by8 4 (n.first + 1).toNat) (labB n.labs ++ n.sl) (n.over + 1).toNat 5 4 (by simp [nB, ptrs]) (by simp [by8_length]) (by omega)
  have e9 : (nB n).drop 9 = labB n.labs ++ n.sl := by
    unfold nB
    rw [List.append_assoc, List.drop_append_of_le_length (by simp only [List.length_append, by8_length, ptrs_length]; simp), List.drop_of_length_le (by simp only [List.length_append, by8_length, ptrs_length]; simp), List.nil_append]
  have k4 : nLabs (nB n) = labB n.labs := by
    unfold nLabs
    rw [e9, List.take_append_of_le_length (by rw [labB_length _ l8]; omega), List.take_of_length_le (by rw [labB_length _ l8]; omega)]
  have k5 : ((nB n).drop 17).take 48 = n.sl := by
    rw [show 17 = 9 + 8 from rfl, ← List.drop_drop, e9, List.drop_append_of_le_length (by rw [labB_length _ l8]; omega), List.drop_of_length_le (by rw [labB_length _ l8]; omega), List.nil_append]
    exact List.take_of_length_le (by omega)
  unfold nDec
  rw [k1, k2, k3, k4, k5, labsOf_labB lr]
  obtain ⟨dense, first, over, labs, sl⟩ := n
  simp only at *
  simp only [NodeV.mk.injEq, true_and, and_true]
  refine ⟨by cases dense <;> rfl, by omega, by omega⟩
theorem nOk_nB (n : NodeV) (h : nFine n = true) : nOk (nB n) = true := by
  obtain ⟨⟨a1, a2⟩, ⟨b1, b2⟩, c1, d1⟩ := nFine_bd h
  obtain ⟨lr, l8⟩ := labFine_bd c1
  have k1 := nm_of (nB n) [] (ptrs [n.first, n.over] ++ labB n.labs ++ n.sl) (if n.dense then 1 else 0) 0 1 (by simp [nB]) rfl (by split <;> simp)
  have e9 : (nB n).drop 9 = labB n.labs ++ n.sl := by
    unfold nB
    rw [List.append_assoc, List.drop_append_of_le_length (by simp only [List.length_append, by8_length, ptrs_length]; simp), List.drop_of_length_le (by simp only [List.length_append, by8_length, ptrs_length]; simp), List.nil_append]
  have k4 : nLabs (nB n) = labB n.labs := by
    unfold nLabs
    rw [e9, List.take_append_of_le_length (by rw [labB_length _ l8]; omega), List.take_of_length_le (by rw [labB_length _ l8]; omega)]
  unfold nOk
  rw [k1, k4, gapOk_labB lr, nDec_nB n h, h]
  cases n.dense <;> rfl
end Go.Proofs.Ytbhmfbhfofgfaaa
