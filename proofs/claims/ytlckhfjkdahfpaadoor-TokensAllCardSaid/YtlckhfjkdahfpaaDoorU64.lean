/- Numbers of 64 bits as the walk has them ('U n': n modulo 2^64, behind a name), the number that bytes write, and the bytes that write a number. No program. -/
import Derived.Test.YtlckhfjkdahfpaaDoorMem
namespace Go.Proofs.YtlckhfjkdahfpaaDoor
open Go.RowKit

def two64 : Nat := 18446744073709551616
def U (n : Nat) : Int := ((n % 18446744073709551616 : Nat) : Int)
theorem U_lo (n : Nat) : 0 ≤ U n := by unfold U; omega
theorem U_hi (n : Nat) : U n ≤ 18446744073709551615 := by unfold U; omega
theorem U_lt (n : Nat) (h : n < 18446744073709551616) : U n = (n : Int) := by unfold U; rw [Nat.mod_eq_of_lt h]
theorem U_mod (n : Nat) : U (n % 18446744073709551616) = U n := by unfold U; rw [Nat.mod_mod]
theorem U_zero : U 0 = 0 := rfl
theorem wrap64u (z : Int) : IntKind.u64.wrap z = z % 18446744073709551616 := by simp [IntKind.wrap, IntKind.bits, IntKind.signed]
theorem wrapU_nat (n : Nat) : IntKind.u64.wrap (n : Int) = U n := by rw [wrap64u]; unfold U; omega
theorem wrapU_I8 (x : UInt8) : IntKind.u64.wrap (I8 x) = U x.toNat := by
  have : I8 x = (x.toNat : Int) := by unfold I8; rfl
  rw [this, wrapU_nat]
theorem wrapU (n : Nat) : IntKind.u64.wrap (U n) = U n := by rw [wrap64u]; unfold U; omega
theorem addU (a b : Nat) : IntKind.u64.wrap (U a + U b) = U (a + b) := by rw [wrap64u]; unfold U; omega
theorem mulU (a b : Nat) : IntKind.u64.wrap (U a * U b) = U (a * b) := by
  rw [wrap64u]
  unfold U
  rw [← Int.natCast_mul]
  have h := Int.natCast_emod (a % 18446744073709551616 * (b % 18446744073709551616)) 18446744073709551616
  rw [← Nat.mul_mod] at h
  exact h.symm
theorem mulU256 (a : Nat) : IntKind.u64.wrap (U a * 256) = U (a * 256) := by
  rw [wrap64u]; unfold U; omega
theorem ofU (n : Nat) : BitVec.ofInt 64 (U n) = BitVec.ofNat 64 n := by
  unfold U
  rw [BitVec.ofInt_natCast]
  apply BitVec.eq_of_toNat_eq
  simp
attribute [irreducible] U
theorem orU (a b : Nat) : bits .or .u64 (U a) (U b) = U ((a % 18446744073709551616) ||| (b % 18446744073709551616)) := by
  have h2 : (2 : Nat) ^ 64 = 18446744073709551616 := by simp
  have key : (BitVec.ofInt 64 (U a) ||| BitVec.ofInt 64 (U b)).toNat = (a % 18446744073709551616) ||| (b % 18446744073709551616) := by
    rw [ofU, ofU, BitVec.toNat_or, BitVec.toNat_ofNat, BitVec.toNat_ofNat, h2]
  exact (congrArg (fun z : Nat => IntKind.u64.wrap (z : Int)) key).trans (wrapU_nat _)
theorem shlU8 (n : Nat) (yk : IntKind) : Op.shift .shl .u64 (U n) yk 8 = pure (.int .u64 (U (n * 256))) := by
  rw [shift_shl_any _ _ _ _ (by omega)]
  show pure (Value.int .u64 (IntKind.u64.wrap (U n * 2 ^ 8))) = _
  congr 2
  rw [wrap64u]
  unfold U
  omega
theorem shrU (n : Nat) (s : Nat) : U n / 2 ^ s = U ((n % 18446744073709551616) / 2 ^ s) := by
  unfold U
  rw [Nat.mod_eq_of_lt (Nat.lt_of_le_of_lt (Nat.div_le_self _ _) (Nat.mod_lt _ (by decide)))]
  simp
theorem shrU_op (n : Nat) (yk : IntKind) (s : Nat) (h : s ≤ 64) : Op.shift .shr .u64 (U n) yk (s : Int) = pure (.int .u64 (U ((n % 18446744073709551616) / 2 ^ s))) := by
  rw [shift_shr_any _ _ _ _ (by omega)]
  have e : min ((s : Int)).toNat (IntKind.u64.bits) = s := by
    show min ((s : Int)).toNat 64 = s
    omega
  rw [e, shrU]
theorem remU (n : Nat) : U n % 256 = U (n % 256) := by unfold U; omega
theorem divU (n : Nat) : U n / 256 = U ((n % 18446744073709551616) / 256) := by unfold U; omega
theorem tmodU (n : Nat) : (U n).tmod 256 = U (n % 256) := by rw [Int.tmod_eq_emod_of_nonneg (U_lo n)]; exact remU n
theorem tdivU (n : Nat) : (U n).tdiv 256 = U ((n % 18446744073709551616) / 256) := by rw [Int.tdiv_eq_ediv_of_nonneg (U_lo n)]; exact divU n
theorem byteU (n : Nat) : IntKind.u8.wrap (U n) = I8 (UInt8.ofNat n) := by
  have h : I8 (UInt8.ofNat n) = ((n % 256 : Nat) : Int) := by unfold I8; simp
  rw [h]
  unfold U
  simp [IntKind.wrap, IntKind.bits, IntKind.signed] <;> omega
theorem U_eq (a b : Nat) : (U a == U b) = (a % 18446744073709551616 == b % 18446744073709551616) := by
  unfold U
  by_cases h : a % 18446744073709551616 = b % 18446744073709551616
  · rw [h, beq_self_eq_true, beq_self_eq_true]
  · rw [beq_eq_false_iff_ne.2 h, beq_eq_false_iff_ne.2 fun e => h (by omega)]
theorem U_ne (a b : Nat) : (U a != U b) = (a % 18446744073709551616 != b % 18446744073709551616) := by unfold bne; rw [U_eq]
/-- a number of 64 bits is one of these -/
theorem U_of_int (z : Int) (h : 0 ≤ z) (h2 : z ≤ 18446744073709551615) : ∃ n : Nat, n < 18446744073709551616 ∧ z = U n := by
  refine ⟨z.toNat, by omega, ?_⟩
  rw [U_lt _ (by omega)]; omega
theorem U_int (n : Nat) (h : n < 9223372036854775808) : IntKind.i64.wrap (U n) = (n : Int) := by
  rw [U_lt _ (by omega)]
  simp [IntKind.wrap, IntKind.bits, IntKind.signed]
  omega
theorem wrap64_U (n : Nat) (h : n < 9223372036854775808) : wrap64 (U n) = (n : Int) := by
  rw [U_lt _ (by omega)]
  exact IntWalk.wrap64_in _ ⟨by omega, by omega⟩

/-- the number that bytes write, the greatest first -/
def be (l : List UInt8) : Nat := l.foldl (fun n x => n * 256 + x.toNat) 0
theorem be_from (l : List UInt8) (n : Nat) : l.foldl (fun n x => n * 256 + x.toNat) n = n * 256 ^ l.length + be l := by
  induction l generalizing n with
  | nil => simp [be]
  | cons x l ih =>
    unfold be
    rw [List.foldl_cons, List.foldl_cons, ih, ih (0 * 256 + x.toNat), List.length_cons, Nat.pow_succ, Nat.zero_mul, Nat.zero_add, Nat.add_mul]
    rw [Nat.mul_comm (256 ^ l.length) 256, ← Nat.mul_assoc]
    omega
theorem be_snoc (l : List UInt8) (x : UInt8) : be (l ++ [x]) = be l * 256 + x.toNat := by
  unfold be; rw [List.foldl_append]; rfl
theorem be_cons (x : UInt8) (l : List UInt8) : be (x :: l) = x.toNat * 256 ^ l.length + be l := by
  have := be_from l x.toNat
  unfold be at this ⊢
  rw [List.foldl_cons]
  simpa using this
theorem be_lt (l : List UInt8) : be l < 256 ^ l.length := by
  induction l with
  | nil => simp [be]
  | cons x l ih =>
    rw [be_cons, List.length_cons, Nat.pow_succ]
    have hx := x.toNat_lt
    have : x.toNat * 256 ^ l.length + 256 ^ l.length ≤ 256 * 256 ^ l.length := by
      rw [← Nat.succ_mul]; exact Nat.mul_le_mul_right _ hx
    rw [Nat.mul_comm (256 ^ l.length) 256]
    omega
/-- the bytes that write a number in w bytes -/
def by8 : Nat → Nat → List UInt8
  | 0, _ => []
  | w + 1, n => by8 w (n / 256) ++ [UInt8.ofNat n]
theorem by8_length (w n : Nat) : (by8 w n).length = w := by
  induction w generalizing n with
  | zero => rfl
  | succ w ih => simp [by8, ih]
theorem be_by8 (w n : Nat) : be (by8 w n) = n % 256 ^ w := by
  induction w generalizing n with
  | zero => simp [by8, be, Nat.mod_one]
  | succ w ih =>
    unfold by8
    rw [be_snoc, ih, Nat.pow_succ, Nat.mul_comm (256 ^ w) 256, Nat.mod_mul]
    simp only [UInt8.toNat_ofNat']
    omega
theorem by8_be (l : List UInt8) : by8 l.length (be l) = l := by
  induction hn : l.length generalizing l with
  | zero => rw [List.eq_nil_of_length_eq_zero hn]; rfl
  | succ w ih =>
    obtain ⟨r, x, rfl⟩ : ∃ r x, l = r ++ [x] := ⟨l.dropLast, l.getLast (by intro h; rw [h] at hn; simp at hn), (List.dropLast_concat_getLast _).symm⟩
    have hr : r.length = w := by simpa using hn
    unfold by8
    rw [be_snoc]
    have hx := x.toNat_lt
    have e1 : (be r * 256 + x.toNat) / 256 = be r := by omega
    have e2 : UInt8.ofNat (be r * 256 + x.toNat) = x := by
      apply UInt8.toNat_inj.1
      simp only [UInt8.toNat_ofNat']
      omega
    rw [e1, e2, ih r hr]
theorem by8_get : ∀ (w n j : Nat), j < w → (by8 w n).getD j 0 = UInt8.ofNat (n / 256 ^ (w - 1 - j))
  | w + 1, n, j, h => by
    unfold by8
    by_cases e : j < w
    · have h1 : (by8 w (n / 256) ++ [UInt8.ofNat n]).getD j 0 = (by8 w (n / 256)).getD j 0 := by
        simp [List.getD, List.getElem?_append, by8_length, e]
      rw [h1, by8_get w (n / 256) j e, Nat.div_div_eq_div_mul, Nat.mul_comm, ← Nat.pow_succ]
      congr 3
      omega
    · have : j = w := by omega
      subst this
      simp [List.getD, List.getElem?_append, by8_length]
theorem by8_take (w n k : Nat) (h : k < w) : (by8 w n).take (k + 1) = (by8 w n).take k ++ [UInt8.ofNat (n / 256 ^ (w - 1 - k))] := by
  rw [take_snoc _ k (by rw [by8_length]; exact h), ← by8_get w n k h]
  simp [List.getD, by8_length, h]
theorem by8_mod (w n : Nat) : by8 w (n % 256 ^ w) = by8 w n := by
  have := by8_be (by8 w n)
  rwa [be_by8, by8_length] at this
end Go.Proofs.YtlckhfjkdahfpaaDoor
