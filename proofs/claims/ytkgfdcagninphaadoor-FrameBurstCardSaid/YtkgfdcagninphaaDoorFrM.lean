/- Frames: the plain law of turned bytes. No program. -/
import Derived.Test.YtkgfdcagninphaaDoorFrA
namespace Go.Proofs.YtkgfdcagninphaaDoor

theorem fH_sz (t : UInt8) (d S : List UInt8) (h : d.length ≤ 1048576) : sz (fH t d ++ S) = d.length := by
  unfold sz fH
  rw [List.cons_append, show ∀ (x : UInt8) (y : List UInt8), (x :: y).drop 1 = y from fun _ _ => rfl, List.append_assoc, List.take_append_of_le_length (by rw [by8_length]; omega), List.take_of_length_le (by rw [by8_length]; omega), be_by8]
  have h5 : (256 : Nat) ^ 4 = 4294967296 := by decide
  omega
/-- a frame's head with whatever sum behind it -/
theorem one_fH (t : UInt8) (d S : List UInt8) (hS : S.length = 4) (h : d.length ≤ 1048576) : one (fH t d ++ S) = if (BitVec.ofNat 32 (be S) != sm (fH t d)) = true then .bad else .ok t d := by
  have hL : (fH t d ++ S).length = d.length + 9 := by rw [List.length_append, fH_length, hS]
  have hs := fH_sz t d S h
  have hsu : su (fH t d ++ S) d.length = BitVec.ofNat 32 (be S) := by
    unfold su
    rw [List.drop_left' (fH_length t d), List.take_of_length_le (by rw [hS]; exact Nat.le_refl _)]
  have htk : (fH t d ++ S).take (d.length + 5) = fH t d := List.take_left' (fH_length t d)
  have hd : ((fH t d ++ S).drop 5).take d.length = d := by
    unfold fH
    rw [List.cons_append, show ∀ (x : UInt8) (y : List UInt8), (x :: y).drop 5 = y.drop 4 from fun _ _ => rfl, List.append_assoc, List.drop_left' (by rw [by8_length]), List.take_left]
  have ht : (fH t d ++ S).getD 0 0 = t := by unfold fH; rfl
  unfold one
  rw [if_neg (by omega), if_neg (by omega), if_neg (by omega), hs, hsu, htk, hd, ht]
/-- bytes turned within the data of a frame -/
theorem spl_turned (T : UInt8) (d d' : List UInt8) (hl : d'.length = d.length) (h : d.length ≤ 1048576) : spl (fH T d' ++ sm4 (fH T d)) = if (sm (fH T d') == sm (fH T d)) = true then ([(T, d')], 0) else ([], 91) := by
  have ho := one_fH T d' (sm4 (fH T d)) (sm4_length _) (by omega)
  have hb : BitVec.ofNat 32 (be (sm4 (fH T d))) = sm (fH T d) := by
    unfold sm4
    rw [be_by8]
    apply BitVec.eq_of_toNat_eq
    have := (sm (fH T d)).isLt
    have h5 : (256 : Nat) ^ 4 = 4294967296 := by decide
    rw [BitVec.toNat_ofNat]
    omega
  rw [hb] at ho
  by_cases he : sm (fH T d') = sm (fH T d)
  · rw [if_pos (by rw [he]; exact beq_self_eq_true _)]
    rw [if_neg (by rw [he]; simp)] at ho
    have hL : (fH T d' ++ sm4 (fH T d)).length = d'.length + 9 := by rw [List.length_append, fH_length, sm4_length]
    have hr := run_ok ho
    rw [List.drop_of_length_le (by omega), run_cut one_nil] at hr
    unfold spl
    rw [hr]
    simp [hL]
  · rw [if_neg (by simpa using he)]
    rw [if_pos (by rw [bne_iff_ne]; exact fun e => he e.symm)] at ho
    have hr := run_bad ho
    unfold spl
    rw [hr]
    simp
theorem fH_turn (T : UInt8) (d : List UInt8) (p : Nat) (hp : 5 ≤ p) (x : UInt8) : (fH T d).set p x = fH T (d.set (p - 5) x) := by
  obtain ⟨q, rfl⟩ : ∃ q, p = q + 5 := ⟨p - 5, by omega⟩
  unfold fH
  rw [List.set_cons_succ, List.set_append_right _ _ (by rw [by8_length]; omega), by8_length, List.length_set]
  congr 2
end Go.Proofs.YtkgfdcagninphaaDoor
