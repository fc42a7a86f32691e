/- Frames: turned bytes within a frame. No program. -/
import Derived.Test.YtkgfdcagninphaaDoorFrM
import Derived.Test.YtkgfdcagninphaaDoorNum
namespace Go.Proofs.YtkgfdcagninphaaDoor
open Go.RowKit

/-- below k what stands from p on is turned -/
def mixb (l : List UInt8) (p : Nat) (t : List UInt8) : Nat → List UInt8
  | 0 => l
  | k + 1 => (mixb l p t k).set (p + k) (l.getD (p + k) 0 ^^^ t.getD k 0)
theorem mixb_length (l : List UInt8) (p : Nat) (t : List UInt8) : ∀ k, (mixb l p t k).length = l.length
  | 0 => rfl
  | k + 1 => by simp [mixb, mixb_length l p t k]
theorem mixb_far (l : List UInt8) (p : Nat) (t : List UInt8) : ∀ k j, p + k ≤ j → (mixb l p t k).getD j 0 = l.getD j 0
  | 0, _, _ => rfl
  | k + 1, j, h => by
    have : (mixb l p t (k + 1)).getD j 0 = (mixb l p t k).getD j 0 := by simp [mixb, List.getD, List.getElem?_set, show p + k ≠ j by omega]
    rw [this, mixb_far l p t k j (by omega)]
theorem mixb_eq (l : List UInt8) (p : Nat) (t : List UInt8) : ∀ k, p + k ≤ l.length → k ≤ t.length →
    mixb l p t k = l.take p ++ (P.zx ((l.drop p).take k) (t.take k) ++ l.drop (p + k))
  | 0, _, _ => by simp [mixb, P.zx]
  | k + 1, h, ht => by
    have ih := mixb_eq l p t k (by omega) (by omega)
    have hz : (P.zx ((l.drop p).take k) (t.take k)).length = k := by simp [P.zx, List.length_zipWith]; omega
    show (mixb l p t k).set (p + k) _ = _
    rw [ih]
    rw [List.set_append_right _ _ (by simp; omega), List.set_append_right _ _ (by simp [hz]; omega)]
    have e1 : l.drop (p + k) = l.getD (p + k) 0 :: l.drop (p + k + 1) := by
      rw [List.drop_eq_getElem_cons (by omega)]
      simp [List.getD, show p + k < l.length by omega]
    have e2 : p + k - (l.take p).length - (P.zx ((l.drop p).take k) (t.take k)).length = 0 := by rw [hz]; simp; omega
    rw [e2, e1, List.set_cons_zero]
    have e3 : (l.drop p).take (k + 1) = (l.drop p).take k ++ [l.getD (p + k) 0] := by
      rw [take_snoc _ k (by simp; omega)]
      simp [List.getD, show p + k < l.length by omega]
    have e4 : t.take (k + 1) = t.take k ++ [t.getD k 0] := by
      rw [take_snoc _ k (by omega)]
      simp [List.getD, show k < t.length by omega]
    have e5 : P.zx ((l.drop p).take k ++ [l.getD (p + k) 0]) (t.take k ++ [t.getD k 0]) = P.zx ((l.drop p).take k) (t.take k) ++ [l.getD (p + k) 0 ^^^ t.getD k 0] := by
      unfold P.zx
      rw [List.zipWith_append (by simp; omega)]
      rfl
    rw [e3, e4, e5, show p + (k + 1) = p + k + 1 by omega]
    simp
theorem burst (l : List UInt8) (p : Nat) (t : List UInt8) (m : Nat) (h : p + m ≤ l.length) (ht : m ≤ t.length) (h4 : m ≤ 4) :
    (P.update 0#32 (mixb l p t m) == P.update 0#32 l) = (t.take m).all (· == 0) := by
  have hl : l = l.take p ++ ((l.drop p).take m ++ l.drop (p + m)) := by
    rw [← List.drop_drop, List.take_append_drop, List.take_append_drop]
  rw [mixb_eq l p t m h ht]
  conv => lhs; rhs; rw [hl]
  exact P.update_burst _ _ _ _ (by simp; omega) (by simp; omega)
/-- is one of the first k turned? -/
def un (t : List UInt8) (k : Nat) : Bool := !(t.take k).all (· == 0)
theorem un_next (t : List UInt8) (k : Nat) (h : k < t.length) : un t (k + 1) = (un t k || (t.getD k 0 != 0)) := by
  unfold un
  rw [take_snoc t k h, List.all_append, Bool.not_and]
  simp [List.getD, h, bne]

theorem mixb_app (H S : List UInt8) (p : Nat) (t : List UInt8) : ∀ k, p + k ≤ H.length → mixb (H ++ S) p t k = mixb H p t k ++ S
  | 0, _ => rfl
  | k + 1, h => by
    have ih := mixb_app H S p t k (by omega)
    show (mixb (H ++ S) p t k).set (p + k) _ = (mixb H p t k).set (p + k) _ ++ S
    rw [ih, List.set_append_left _ _ (by rw [mixb_length]; omega)]
    congr 2
    simp [List.getD, List.getElem?_append_left (show p + k < H.length by omega)]
theorem fH_getD (T : UInt8) (d : List UInt8) (q : Nat) : (fH T d).getD (q + 5) 0 = d.getD q 0 := by
  unfold fH
  rw [show q + 5 = (q + 4) + 1 from rfl]
  simp only [List.getD, List.getElem?_cons_succ]
  rw [List.getElem?_append_right (by rw [by8_length]; omega), by8_length, Nat.add_sub_cancel]
theorem mixb_fH (T : UInt8) (d : List UInt8) (q : Nat) (t : List UInt8) : ∀ k, mixb (fH T d) (q + 5) t k = fH T (mixb d q t k)
  | 0 => rfl
  | k + 1 => by
    have ih := mixb_fH T d q t k
    show (mixb (fH T d) (q + 5) t k).set (q + 5 + k) _ = fH T ((mixb d q t k).set (q + k) _)
    rw [ih, fH_turn _ _ _ (by omega), show q + 5 + k = (q + k) + 5 by omega, fH_getD, Nat.add_sub_cancel]
/-- turned bytes of a frame's data are told -/
theorem spl_mixb (T : UInt8) (d t : List UInt8) (q m : Nat) (h : d.length ≤ 1048576) (hm : m = 0 ∨ q + m ≤ d.length) (ht : m ≤ t.length) (h4 : m ≤ 4) :
    spl (mixb (fB T d) (q + 5) t m) = if un t m = true then ([], 91) else ([(T, mixb d q t m)], 0) := by
  have e : mixb (fB T d) (q + 5) t m = fH T (mixb d q t m) ++ sm4 (fH T d) := by
    rcases hm with rfl | hm
    · rfl
    · unfold fB
      rw [mixb_app _ _ _ _ _ (by rw [fH_length]; omega), mixb_fH]
  have hb : (sm (fH T (mixb d q t m)) == sm (fH T d)) = (t.take m).all (· == 0) := by
    rcases hm with rfl | hm
    · simp [mixb]
    · have := burst (fH T d) (q + 5) t m (by rw [fH_length]; omega) ht h4
      rw [mixb_fH] at this
      exact this
  rw [e, spl_turned T d _ (mixb_length ..) h, hb]
  unfold un
  cases (t.take m).all (· == 0) <;> rfl
end Go.Proofs.YtkgfdcagninphaaDoor
