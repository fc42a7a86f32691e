/- The plain law of WireThere: where a script's parts stand in what was written. -/
import Derived.Test.YtnmfejlhbgockaaWireM
import Derived.Test.YtnmfejlhbgockaaWireN
namespace Go.Proofs.Ytnmfejlhbgockaa
open Go.RowKit

/-- what one call writes -/
def part (o : OpV) : List UInt8 := if bits .and .i64 o.kind 1 = 0 then by8 8 o.num else by8 4 o.data.length ++ o.data
def pre (F : Nat → OpV) : Nat → List UInt8
  | 0 => []
  | k + 1 => pre F k ++ part (F k)
theorem pre_split (F : Nat → OpV) (n : Nat) : ∀ k, k ≤ n → ∃ r, pre F n = pre F k ++ r := by
  induction n with
  | zero => intro k hk; exact ⟨[], by rw [show k = 0 by omega]; rfl⟩
  | succ n ih =>
    intro k hk
    by_cases h : k = n + 1
    · exact ⟨[], by rw [h]; simp⟩
    · obtain ⟨r, hr⟩ := ih k (by omega)
      exact ⟨r ++ part (F n), by rw [pre, hr, List.append_assoc]⟩
theorem pre_at (F : Nat → OpV) (n k : Nat) (h : k < n) : ∃ r, pre F n = pre F k ++ (part (F k) ++ r) := by
  obtain ⟨r, hr⟩ := pre_split F n (k + 1) (by omega)
  exact ⟨r, by rw [hr, pre, List.append_assoc]⟩
theorem part_length (o : OpV) : 4 ≤ (part o).length ∧ (part o).length ≤ o.data.length + 8 := by
  unfold part
  split
  · rw [by8_length]; omega
  · rw [List.length_append, by8_length]; omega
theorem pre_length (F : Nat → OpV) (n : Nat) (h : ∀ k, k < n → (F k).data.length ≤ 1048576) : (pre F n).length ≤ n * 1048584 := by
  induction n with
  | zero => simp [pre]
  | succ n ih =>
    have h1 := ih fun k hk => h k (by omega)
    have h2 := h n (by omega)
    have h3 := (part_length (F n)).2
    rw [pre, List.length_append]
    omega
theorem pre_pos (F : Nat → OpV) (n : Nat) (h : 0 < n) : 0 < (pre F n).length := by
  obtain ⟨r, hr⟩ := pre_at F n (n - 1) (by omega)
  have := (part_length (F (n - 1))).1
  rw [hr, List.length_append, List.length_append]
  omega
/-- a read of n bytes where they stand -/
theorem take_at (L a b r : List UInt8) (h : L = a ++ (b ++ r)) : rTake L true a.length 0 b.length = b ∧ rAt L true a.length 0 b.length = a.length + b.length ∧ rErr L true a.length 0 b.length = 0 := by
  have hl : L.length = a.length + (b.length + r.length) := by rw [h, List.length_append, List.length_append]
  obtain ⟨h1, h2, h3⟩ := r_yes (l := L) (q := a.length) (k := b.length) (by omega)
  refine ⟨?_, h2, h3⟩
  rw [h1, h]
  simp
theorem num_at (L a b r : List UInt8) (h : L = a ++ (b ++ r)) (z : Int) (hz : isWd z = true) (hb : z = b.length) : rNum L a.length 0 z = be b ∧ rAt L (isWd z) a.length 0 z = a.length + b.length ∧ rErr L (isWd z) a.length 0 z = 0 := by
  obtain ⟨h1, h2, h3⟩ := take_at L a b r h
  unfold rNum
  rw [hz, hb, h1]
  exact ⟨rfl, h2, h3⟩
end Go.Proofs.Ytnmfejlhbgockaa
