/- The lower bits of a number. No program. -/
import Derived.Test.YtlckhfjkdahfpaaDoorMem
namespace Go.Proofs.YtlckhfjkdahfpaaDoor
open Go.RowKit
theorem and_mask (z : Int) (m : Nat) (hm : m < 9223372036854775808) : ∃ j : Nat, j ≤ m ∧ bits .and .i64 z (m : Int) = (j : Int) := by
  have h3 : (BitVec.ofNat 64 m).toNat = m := by rw [BitVec.toNat_ofNat, Nat.mod_eq_of_lt (by omega)]
  have h2 : (BitVec.ofInt 64 z &&& BitVec.ofNat 64 m).toNat ≤ m := by
    rw [BitVec.toNat_and, h3]
    exact Nat.and_le_right
  refine ⟨(BitVec.ofInt 64 z &&& BitVec.ofNat 64 m).toNat, h2, ?_⟩
  show IntKind.i64.wrap ((BitVec.ofInt 64 z &&& BitVec.ofInt 64 (m : Int)).toNat : Int) = _
  rw [BitVec.ofInt_natCast]
  exact IntWalk.i64_in _ (by omega)
theorem mask255 (z : Int) : ∃ j : Nat, j ≤ 255 ∧ bits .and .i64 z 255 = (j : Int) := and_mask z 255 (by decide)
theorem mask63 (z : Int) : ∃ j : Nat, j ≤ 63 ∧ bits .and .i64 z 63 = (j : Int) := and_mask z 63 (by decide)
theorem mask7 (z : Int) : ∃ j : Nat, j ≤ 7 ∧ bits .and .i64 z 7 = (j : Int) := and_mask z 7 (by decide)
theorem mask3 (z : Int) : ∃ j : Nat, j ≤ 3 ∧ bits .and .i64 z 3 = (j : Int) := and_mask z 3 (by decide)
end Go.Proofs.YtlckhfjkdahfpaaDoor
