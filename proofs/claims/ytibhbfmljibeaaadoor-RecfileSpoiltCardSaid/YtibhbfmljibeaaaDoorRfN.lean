/- Record files: a head of which one byte is turned. No program. -/
import Derived.Test.YtibhbfmljibeaaaDoorRfP
namespace Go.Proofs.YtibhbfmljibeaaaDoor
open Go.RowKit

theorem cut_at {l : List UInt8} {p : Nat} (h : p < l.length) : l = l.take p ++ ([l.getD p 0] ++ l.drop (p + 1)) := by
  have e1 : l.drop p = l.getD p 0 :: l.drop (p + 1) := by
    rw [List.drop_eq_getElem_cons h]
    simp [List.getD, h]
  conv => lhs; rw [← List.take_append_drop p l, e1]
  rfl
theorem set_at {l : List UInt8} {p : Nat} (h : p < l.length) (x : UInt8) : l.set p x = l.take p ++ ([x] ++ l.drop (p + 1)) := by
  rw [List.set_eq_take_append_cons_drop, if_pos h]
  rfl
theorem sm_turn {l : List UInt8} {p : Nat} {t : UInt8} (h : p < l.length) (ht : t ≠ 0) : sm (l.set p (l.getD p 0 ^^^ t)) ≠ sm l := by
  intro e
  have hb := P.update_burst (l.take p) [l.getD p 0] (l.drop (p + 1)) [t] rfl (by simp)
  rw [← cut_at h] at hb
  have e2 : l.take p ++ (P.zx [l.getD p 0] [t] ++ l.drop (p + 1)) = l.set p (l.getD p 0 ^^^ t) := by
    rw [set_at h]
    rfl
  rw [e2] at hb
  have e3 : (P.update 0#32 (l.set p (l.getD p 0 ^^^ t)) == P.update 0#32 l) = true := by
    rw [beq_iff_eq]
    exact e
  rw [e3] at hb
  simp at hb
  exact ht hb
theorem sm4_inj {a b : List UInt8} (h : sm4 a = sm4 b) : sm a = sm b := by
  have h1 : be (sm4 a) = be (sm4 b) := by rw [h]
  unfold sm4 at h1
  rw [be_by8, be_by8, Nat.mod_eq_of_lt (by have := (sm a).isLt; omega), Nat.mod_eq_of_lt (by have := (sm b).isLt; omega)] at h1
  exact BitVec.eq_of_toNat_eq h1
theorem openB_spoilt {b : List UInt8} {p : Nat} {t : UInt8} {kd vr sz : Nat} {R : Recs} (h : openB b = .ok (kd, vr, sz, R)) (hp : p < 16) (ht : t ≠ 0) : ∃ e, openB (b.set p (b.getD p 0 ^^^ t)) = .error e := by
  cases hO : openB (b.set p (b.getD p 0 ^^^ t)) with
  | error e => exact ⟨e, rfl⟩
  | ok x =>
    exfalso
    obtain ⟨kd', vr', sz', R'⟩ := x
    obtain ⟨e1, -⟩ := openB_inv h
    obtain ⟨e2, -⟩ := openB_inv hO
    obtain ⟨H, hH⟩ : ∃ H, H = h12 kd vr sz R.length := ⟨_, rfl⟩
    obtain ⟨H', hH'⟩ : ∃ H', H' = h12 kd' vr' sz' R'.length := ⟨_, rfl⟩
    have l1 : H.length = 12 := by rw [hH, h12_length]
    have l2 : H'.length = 12 := by rw [hH', h12_length]
    have f1 : b = H ++ (sm4 H ++ bodyB sz R) := by rw [← e1, hH]; unfold fileB headB; rw [List.append_assoc]
    have f2 : b.set p (b.getD p 0 ^^^ t) = H' ++ (sm4 H' ++ bodyB sz' R') := by rw [← e2, hH']; unfold fileB headB; rw [List.append_assoc]
    by_cases h12 : p < 12
    · have g : b.getD p 0 = H.getD p 0 := by rw [f1]; simp [List.getD, List.getElem?_append_left, l1, h12]
      rw [g] at f2
      have f3 : (H.set p (H.getD p 0 ^^^ t)) ++ (sm4 H ++ bodyB sz R) = H' ++ (sm4 H' ++ bodyB sz' R') := by
        rw [← f2]
        conv => rhs; rw [f1]
        rw [List.set_append_left _ _ (by omega)]
      obtain ⟨q1, q2⟩ := List.append_inj f3 (by simp [l1, l2])
      obtain ⟨q3, -⟩ := List.append_inj q2 (by simp [sm4_length])
      have := sm4_inj q3
      rw [← q1] at this
      exact sm_turn (by omega) ht this.symm
    · have f3 : H ++ ((sm4 H ++ bodyB sz R).set (p - 12) (b.getD p 0 ^^^ t)) = H' ++ (sm4 H' ++ bodyB sz' R') := by
        rw [← f2]
        conv => rhs; arg 1; rw [f1]
        conv => rhs; rw [List.set_append_right _ _ (by omega), l1]
      obtain ⟨q1, q2⟩ := List.append_inj f3 (by simp [l1, l2])
      rw [← q1, List.set_append_left _ _ (by rw [sm4_length]; omega)] at q2
      obtain ⟨q3, -⟩ := List.append_inj q2 (by simp [sm4_length])
      have g : b.getD p 0 = (sm4 H).getD (p - 12) 0 := by
        rw [f1]
        simp only [List.getD]
        rw [List.getElem?_append_right (by omega), l1, List.getElem?_append_left (by rw [sm4_length]; omega)]
      have g2 : ((sm4 H).set (p - 12) (b.getD p 0 ^^^ t)).getD (p - 12) 0 = b.getD p 0 ^^^ t := by
        simp only [List.getD]
        rw [List.getElem?_set_self (by rw [sm4_length]; omega)]
        rfl
      rw [q3, ← g] at g2
      have : t = 0 := by
        have h := congrArg (fun z => b.getD p 0 ^^^ z) g2
        simp only [← UInt8.xor_assoc, UInt8.xor_self, UInt8.zero_xor] at h
        exact h.symm
      exact ht this
end Go.Proofs.YtibhbfmljibeaaaDoor
