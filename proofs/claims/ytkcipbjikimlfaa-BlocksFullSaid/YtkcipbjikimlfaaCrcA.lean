/- The walks of the check sum's functions that only compute: what each returns; memory stays. -/
import Derived.Test.YtkcipbjikimlfaaRows
import Derived.Test.YtkcipbjikimlfaaMem
namespace Go.Proofs.Ytkcipbjikimlfaa
open Go.RowKit

attribute [local go_sem] bits_not32 bits_xor32 bits_xor32_ones bits_xor32_dvs wrap_I8 bits_and15 nib_low st_up bits_and1 one_eq1 one_ne wide_sh8 shr_pow bt_shr shr_pow8
attribute [local go_sem ↓] shr_I32_4 shr_I32_1 shr_I32_31 shl_I32_1
theorem u0 : Value.int .u32 0 = .int .u32 (I32 0#32) := by rw [I32_zero]

/-- the document's sums: the division goes on -/
theorem div_next {r : BitVec 32} {x : UInt8} {k : Nat} {b c : Bool} (h1 : bt (P.divByte k r x) 31 = b) (h2 : P.bitOf x k = c) (h : b ≠ c) : P.divByte k r x <<< 1 ^^^ P.dvs = P.divByte (k + 1) r x := by
  subst h1; subst h2
  show _ = P.divBit (P.divByte k r x) (P.bitOf x k)
  unfold P.divBit
  rw [← bt_def, bne_iff_ne.2 h]; rfl
theorem div_same {r : BitVec 32} {x : UInt8} {k : Nat} {b c : Bool} (h1 : bt (P.divByte k r x) 31 = b) (h2 : P.bitOf x k = c) (h : b = c) : P.divByte k r x <<< 1 = P.divByte (k + 1) r x := by
  subst h1; subst h2
  show _ = P.divBit (P.divByte k r x) (P.bitOf x k)
  unfold P.divBit
  rw [← bt_def, h]; simp
theorem divRun_next (r : BitVec 32) (l : List UInt8) (k : Nat) (h : k < l.length) : P.divByte 8 (P.divRun r (l.take k)) (l.getD k 0) = P.divRun r (l.take (k + 1)) := by
  unfold P.divRun
  rw [take_snoc l k h, List.foldl_append, List.getD_eq_getElem?_getD, List.getElem?_eq_getElem h]; rfl
end Go.Proofs.Ytkcipbjikimlfaa
