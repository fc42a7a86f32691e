/- Numbers of 8 and 32 bits as the walk has them: names that the walk's simp does not open, and what Go's operations make of them. No condition. -/
import Derived.Test.YtkgfdcagninphaaDoorPlain
import Derived.WalkKit
namespace Go.Proofs.YtkgfdcagninphaaDoor
open Go.RowKit

def I32 (a : BitVec 32) : Int := (a.toNat : Int)
def I8 (x : UInt8) : Int := (x.toNat : Int)
def B8 (x : UInt8) : Value := .int .u8 (I8 x)
theorem I32_lo (a : BitVec 32) : 0 ≤ I32 a := by unfold I32; omega
theorem I32_hi (a : BitVec 32) : I32 a ≤ 4294967295 := by unfold I32; have := a.isLt; omega
theorem I8_lo (x : UInt8) : 0 ≤ I8 x := by unfold I8; omega
theorem I8_hi (x : UInt8) : I8 x ≤ 255 := by unfold I8; have := x.toNat_lt; omega
theorem I32_inj {a b : BitVec 32} (h : I32 a = I32 b) : a = b := by
  unfold I32 at h; exact BitVec.eq_of_toNat_eq (by omega)
theorem I8_inj {a b : UInt8} (h : I8 a = I8 b) : a = b := by
  unfold I8 at h; exact UInt8.toNat_inj.1 (by omega)
theorem of32 (a : BitVec 32) : BitVec.ofInt 32 (I32 a) = a := by
  unfold I32; rw [BitVec.ofInt_natCast]; simp
theorem of8 (a : UInt8) : BitVec.ofInt 8 (I8 a) = a.toBitVec := by
  unfold I8; rw [BitVec.ofInt_natCast]; simp
theorem I8_ofBitVec (a : BitVec 8) : I8 (UInt8.ofBitVec a) = (a.toNat : Int) := by
  unfold I8; simp
theorem I32_ofNat (n : Nat) (h : n ≤ 4294967295) : I32 (BitVec.ofNat 32 n) = (n : Int) := by
  unfold I32; rw [BitVec.toNat_ofNat, Nat.mod_eq_of_lt (by omega)]
theorem wrap32_in (n : Int) (h : 0 ≤ n) (h2 : n ≤ 4294967295) : IntKind.u32.wrap n = n := by
  simp [IntKind.wrap, IntKind.bits, IntKind.signed]; omega
theorem wrap8_in (n : Int) (h : 0 ≤ n) (h2 : n ≤ 255) : IntKind.u8.wrap n = n := by
  simp [IntKind.wrap, IntKind.bits, IntKind.signed]; omega
theorem wrap_I32 (a : BitVec 32) : IntKind.u32.wrap (I32 a) = I32 a := wrap32_in _ (I32_lo a) (I32_hi a)
theorem wrap_I8 (x : UInt8) : IntKind.u32.wrap (I8 x) = I32 (P.wide x) := by
  rw [wrap32_in _ (I8_lo x) (by have := I8_hi x; omega)]
  unfold I8 I32 P.wide
  rw [BitVec.toNat_setWidth, Nat.mod_eq_of_lt (by have := x.toBitVec.isLt; omega)]; rfl
theorem bits_xor32 (a b : BitVec 32) : bits .xor .u32 (I32 a) (I32 b) = I32 (a ^^^ b) := by
  show IntKind.u32.wrap ((BitVec.ofInt 32 (I32 a) ^^^ BitVec.ofInt 32 (I32 b)).toNat : Int) = _
  rw [of32, of32]; exact wrap_I32 _
theorem bits_xor8 (a b : UInt8) : bits .xor .u8 (I8 a) (I8 b) = I8 (a ^^^ b) := by
  show IntKind.u8.wrap ((BitVec.ofInt 8 (I8 a) ^^^ BitVec.ofInt 8 (I8 b)).toNat : Int) = _
  rw [of8, of8, wrap8_in _ (by omega) (by have := (a.toBitVec ^^^ b.toBitVec).isLt; omega)]
  rfl
theorem bits_xor32_ones (a : BitVec 32) : bits .xor .u32 (I32 a) 4294967295 = I32 (~~~ a) := by
  have h : (4294967295 : Int) = I32 0xffffffff#32 := by decide
  rw [h, bits_xor32, P.xor_ones]
theorem bits_not32 (a : BitVec 32) : bits .xor .u32 IntKind.u32.max (I32 a) = I32 (~~~ a) := by
  have h : IntKind.u32.max = I32 0xffffffff#32 := by decide
  rw [h, bits_xor32, BitVec.xor_comm, P.xor_ones]
theorem bits_xor32_dvs (a : BitVec 32) : bits .xor .u32 (I32 a) 79764919 = I32 (a ^^^ P.dvs) := by
  have h : (79764919 : Int) = I32 P.dvs := by decide
  rw [h, bits_xor32]
def low (a : BitVec 32) : Nat := (a &&& 15#32).toNat
theorem bits_and15 (a : BitVec 32) : bits .and .u32 (I32 a) 15 = ((low a : Nat) : Int) := by
  show IntKind.u32.wrap ((BitVec.ofInt 32 (I32 a) &&& BitVec.ofInt 32 15).toNat : Int) = _
  rw [of32]; exact wrap_I32 _
theorem low_lt (a : BitVec 32) : low a < 16 := P.low_lt a
theorem nib_low (a : BitVec 32) : P.nib (low a) ^^^ (a >>> 4) = P.st4 a := rfl
theorem st_up (c : BitVec 32) (x : UInt8) : P.st4 (P.st4 (c ^^^ P.wide x)) = P.up c x := rfl
/-- a bit of a number -/
def bt (a : BitVec 32) (i : Nat) : Bool := a.getLsbD i
theorem bt_def (a : BitVec 32) (i : Nat) : bt a i = a.getLsbD i := rfl
theorem one_get (b : Bool) (i : Nat) : (P.one b).getLsbD i = (b && decide (i = 0)) := by
  cases b
  · show (0#32).getLsbD i = _; simp
  · show (1#32).getLsbD i = _; rw [BitVec.getLsbD_one]; simp
theorem bits_and1 (a : BitVec 32) : bits .and .u32 (I32 a) 1 = I32 (P.one (bt a 0)) := by
  show IntKind.u32.wrap ((BitVec.ofInt 32 (I32 a) &&& BitVec.ofInt 32 1).toNat : Int) = _
  rw [of32]
  have e : a &&& BitVec.ofInt 32 1 = P.one (bt a 0) := by
    apply BitVec.eq_of_getLsbD_eq
    intro i hi
    have h1 : BitVec.ofInt 32 1 = 1#32 := by decide
    rw [h1, BitVec.getLsbD_and, BitVec.getLsbD_one]
    rw [one_get]
    show _ = (a.getLsbD 0 && decide (i = 0))
    rcases Nat.eq_zero_or_pos i with rfl | hp
    · simp
    · simp [show i ≠ 0 by omega]
  rw [e]; exact wrap_I32 _
theorem one_eq1 (b : Bool) : (I32 (P.one b) == 1) = b := by cases b <;> decide
theorem one_ne (a b : Bool) : (I32 (P.one a) != I32 (P.one b)) = (a != b) := by cases a <;> cases b <;> decide
theorem shr_I32 (a : BitVec 32) (yk : IntKind) (n : Nat) (h : n ≤ 32) : Op.shift .shr .u32 (I32 a) yk (n : Int) = pure (.int .u32 (I32 (a >>> n))) := by
  rw [shift_shr_any _ _ _ _ (by omega)]
  have e : min ((n : Int)).toNat (IntKind.u32.bits) = n := by
    show min ((n : Int)).toNat 32 = n
    omega
  rw [e]
  unfold I32; rw [BitVec.toNat_ushiftRight, Nat.shiftRight_eq_div_pow]
  simp
theorem shr_pow (a : BitVec 32) (n : Nat) : I32 a / 2 ^ n = I32 (a >>> n) := by
  unfold I32; rw [BitVec.toNat_ushiftRight, Nat.shiftRight_eq_div_pow]; simp
theorem shr_I32_4 (a : BitVec 32) (yk : IntKind) : Op.shift .shr .u32 (I32 a) yk 4 = pure (.int .u32 (I32 (a >>> 4))) := shr_I32 a yk 4 (by omega)
theorem shr_I32_1 (a : BitVec 32) (yk : IntKind) : Op.shift .shr .u32 (I32 a) yk 1 = pure (.int .u32 (I32 (a >>> 1))) := shr_I32 a yk 1 (by omega)
theorem shr31 (a : BitVec 32) : a >>> 31 = P.one (bt a 31) := by
  apply BitVec.eq_of_getLsbD_eq
  intro i hi
  rw [BitVec.getLsbD_ushiftRight]
  rw [one_get]
  show _ = (a.getLsbD 31 && decide (i = 0))
  rcases Nat.eq_zero_or_pos i with rfl | hp
  · simp
  · rw [BitVec.getLsbD_of_ge a (31 + i) (by omega)]
    simp [show i ≠ 0 by omega]
theorem shr_I32_31 (a : BitVec 32) (yk : IntKind) : Op.shift .shr .u32 (I32 a) yk 31 = pure (.int .u32 (I32 (P.one (bt a 31)))) := by
  rw [← shr31]; exact shr_I32 a yk 31 (by omega)
theorem shl_I32_1 (a : BitVec 32) (yk : IntKind) : Op.shift .shl .u32 (I32 a) yk 1 = pure (.int .u32 (I32 (a <<< 1))) := by
  rw [shift_shl_any _ _ _ _ (by omega)]
  show pure (Value.int .u32 (IntKind.u32.wrap (I32 a * 2 ^ 1))) = _
  congr 2
  unfold I32
  rw [BitVec.toNat_shiftLeft, Nat.shiftLeft_eq]
  simp [IntKind.wrap, IntKind.bits, IntKind.signed]
theorem shl_one (n : Nat) (yk : IntKind) (h : n < 32) : Op.shift .shl .u32 1 yk (n : Int) = pure (.int .u32 (I32 (P.unit n))) := by
  rw [shift_shl_any _ _ _ _ (by omega)]
  have e : min ((n : Int)).toNat (IntKind.u32.bits) = n := by
    show min ((n : Int)).toNat 32 = n
    omega
  rw [e]
  have h2 : 2 ^ n ≤ 2 ^ 31 := Nat.pow_le_pow_right (by omega) (by omega)
  have e2 : I32 (P.unit n) = (2 : Int) ^ n := by
    unfold I32 P.unit
    rw [BitVec.toNat_shiftLeft, Nat.shiftLeft_eq]
    rw [show (1#32).toNat = 1 from rfl, Nat.one_mul, Nat.mod_eq_of_lt (by omega)]
    exact Int.natCast_pow 2 n
  have e3 : ((2 ^ n : Nat) : Int) = (2 : Int) ^ n := Int.natCast_pow 2 n
  rw [e2, wrap32_in]
  · simp
  · rw [Int.one_mul, ← e3]; exact Int.natCast_nonneg _
  · rw [Int.one_mul, ← e3]; exact Int.ofNat_le.2 (show 2 ^ n ≤ 4294967295 by omega)
theorem bits_or32 (a b : BitVec 32) : bits .or .u32 (I32 a) (I32 b) = I32 (a ||| b) := by
  show IntKind.u32.wrap ((BitVec.ofInt 32 (I32 a) ||| BitVec.ofInt 32 (I32 b)).toNat : Int) = _
  rw [of32, of32]; exact wrap_I32 _
theorem one_bt0 (a : BitVec 32) : P.one (bt a 0) = a &&& 1#32 := by
  apply BitVec.eq_of_getLsbD_eq
  intro i hi
  rw [one_get, BitVec.getLsbD_and, BitVec.getLsbD_one]
  show (a.getLsbD 0 && decide (i = 0)) = _
  rcases Nat.eq_zero_or_pos i with rfl | hp
  · simp
  · simp [show i ≠ 0 by omega]
theorem bt_shr (a : BitVec 32) (n : Nat) : bt (a >>> n) 0 = bt a n := by
  unfold bt; rw [BitVec.getLsbD_ushiftRight]; rfl
theorem I32_zero : I32 0#32 = 0 := by decide
theorem I32_poly : I32 (P.m0 0) = 3988292384 := by decide
theorem I32_256 : I32 256#32 = 256 := by decide
theorem I32_ne0 (a : BitVec 32) : (I32 a != 0) = (a != 0#32) := by
  have h : (0 : Int) = I32 0#32 := I32_zero.symm
  rw [h]
  unfold bne
  by_cases e : a = 0#32
  · subst e; rw [beq_self_eq_true, beq_self_eq_true]
  · rw [beq_eq_false_iff_ne.2 e, beq_eq_false_iff_ne.2 fun e2 => e (I32_inj e2)]
theorem prod_next (p q : BitVec 32) (k j : Nat) (h : j = 31 - k) : P.prodTo p q (k + 1) = ((P.prodTo p q k <<< 1) ^^^ (if bt (P.prodTo p q k) 31 then P.dvs else 0#32)) ^^^ (if bt p j then q else 0#32) := by
  subst h; rfl
theorem prod_tt {p q : BitVec 32} {k j : Nat} (h : j = 31 - k) (h1 : bt (P.prodTo p q k) 31 = true) (h2 : bt p j = true) : P.prodTo p q k <<< 1 ^^^ P.dvs ^^^ q = P.prodTo p q (k + 1) := by
  rw [prod_next p q k j h, h1, h2]; rfl
theorem prod_tf {p q : BitVec 32} {k j : Nat} (h : j = 31 - k) (h1 : bt (P.prodTo p q k) 31 = true) (h2 : bt p j = false) : P.prodTo p q k <<< 1 ^^^ P.dvs = P.prodTo p q (k + 1) := by
  rw [prod_next p q k j h, h1, h2]; simp
theorem prod_ft {p q : BitVec 32} {k j : Nat} (h : j = 31 - k) (h1 : bt (P.prodTo p q k) 31 = false) (h2 : bt p j = true) : P.prodTo p q k <<< 1 ^^^ q = P.prodTo p q (k + 1) := by
  rw [prod_next p q k j h, h1, h2]; simp
theorem prod_ff {p q : BitVec 32} {k j : Nat} (h : j = 31 - k) (h1 : bt (P.prodTo p q k) 31 = false) (h2 : bt p j = false) : P.prodTo p q k <<< 1 = P.prodTo p q (k + 1) := by
  rw [prod_next p q k j h, h1, h2]; simp
theorem pow_m0 (k : Nat) (h1 : 1 ≤ k) (h : k < 32) : (2 : Int) ^ (k - 1) % 4294967296 = I32 (P.m0 k) := by
  unfold P.m0
  rw [if_neg (by omega)]
  have := shl_one (k - 1) .i64 (by omega)
  rw [shift_shl_any _ _ _ _ (by omega)] at this
  have e : min (((k - 1 : Nat) : Int)).toNat (IntKind.u32.bits) = k - 1 := by
    show min (((k - 1 : Nat) : Int)).toNat 32 = k - 1
    omega
  rw [e] at this
  have h2 := Value.int.inj (Sem.pure.inj this)
  rw [← h2.2, Int.one_mul]
  simp [IntKind.wrap, IntKind.bits, IntKind.signed]
theorem and1_i64 (i : Int) (h : 0 ≤ i) (h2 : i ≤ 9223372036854775807) : (bits .and .i64 i 1 == 1) = decide (i.toNat % 2 = 1) := by
  obtain ⟨n, rfl⟩ := Int.eq_ofNat_of_zero_le h
  have e : bits .and .i64 (n : Int) 1 = ((n % 2 : Nat) : Int) := by
    show IntKind.i64.wrap ((BitVec.ofInt 64 (n : Int) &&& BitVec.ofInt 64 1).toNat : Int) = _
    have h1 : BitVec.ofInt 64 1 = 1#64 := by decide
    rw [h1, BitVec.ofInt_natCast, BitVec.toNat_and]
    have : ((BitVec.ofNat 64 n).toNat &&& (1#64).toNat) = n % 2 := by
      rw [BitVec.toNat_ofNat, show (1#64).toNat = 1 from rfl, Nat.and_one_is_mod]
      omega
    rw [this]
    simp [IntKind.wrap, IntKind.bits, IntKind.signed]
    omega
  rw [e]
  show (((n % 2 : Nat) : Int) == 1) = decide (n % 2 = 1)
  rcases Nat.mod_two_eq_zero_or_one n with h | h <;> rw [h] <;> rfl
/-- a byte's bits above k -/
def sh8 (x : UInt8) (k : Nat) : UInt8 := UInt8.ofBitVec (x.toBitVec >>> k)
theorem shr_I8 (x : UInt8) (yk : IntKind) (k : Nat) (h : k ≤ 8) : Op.shift .shr .u8 (I8 x) yk (k : Int) = pure (.int .u8 (I8 (sh8 x k))) := by
  rw [shift_shr_any _ _ _ _ (by omega)]
  have e : min ((k : Int)).toNat (IntKind.u8.bits) = k := by
    show min ((k : Int)).toNat 8 = k
    omega
  have e2 : I8 (sh8 x k) = I8 x / 2 ^ k := by
    unfold sh8
    rw [I8_ofBitVec, BitVec.toNat_ushiftRight, Nat.shiftRight_eq_div_pow]
    unfold I8
    simp
  rw [e, e2]
theorem shr_pow8 (x : UInt8) (n : Nat) : I8 x / 2 ^ n = I8 (sh8 x n) := by
  symm
  unfold sh8
  rw [I8_ofBitVec, BitVec.toNat_ushiftRight, Nat.shiftRight_eq_div_pow]
  unfold I8
  simp
theorem wide_sh8 (x : UInt8) (k : Nat) : bt (P.wide (sh8 x k)) 0 = P.bitOf x k := by
  unfold bt P.wide sh8 P.bitOf
  simp
  intro h
  rcases Nat.lt_or_ge k 8 with h8 | h8
  · omega
  · rw [BitVec.getLsbD_of_ge _ _ h8] at h; cases h
theorem I8_eq (a b : UInt8) : (I8 a == I8 b) = (a == b) := by
  by_cases h : a = b
  · subst h; rw [beq_self_eq_true, beq_self_eq_true]
  · rw [beq_eq_false_iff_ne.2 h, beq_eq_false_iff_ne.2 fun e => h (I8_inj e)]
theorem I8_ne (a b : UInt8) : (I8 a != I8 b) = (a != b) := by
  unfold bne; rw [I8_eq]
theorem I32_eq (a b : BitVec 32) : (I32 a == I32 b) = (a == b) := by
  by_cases h : a = b
  · subst h; rw [beq_self_eq_true, beq_self_eq_true]
  · rw [beq_eq_false_iff_ne.2 h, beq_eq_false_iff_ne.2 fun e => h (I32_inj e)]
theorem I32_ne (a b : BitVec 32) : (I32 a != I32 b) = (a != b) := by
  unfold bne; rw [I32_eq]
theorem take_snoc {α : Type} (l : List α) (k : Nat) (h : k < l.length) : l.take (k + 1) = l.take k ++ [l[k]] := by
  rw [List.take_succ_eq_append_getElem h]
theorem I32_lit (a : BitVec 32) (n : Nat) (h : a.toNat = n) : I32 a = (n : Int) := by unfold I32; rw [h]
theorem I8_of_nat (n : Nat) (h : n < 256) : I8 (UInt8.ofNat n) = (n : Int) := by
  unfold I8
  rw [UInt8.toNat_ofNat', Nat.mod_eq_of_lt (by omega)]
def nibInts : List Int := [0, 498536548, 997073096, 651767980, 1994146192, 1802195444, 1303535960, 1342533948, 3988292384, 4027552580, 3604390888, 3412177804, 2607071920, 2262029012, 2685067896, 3183342108]
theorem nib_ints : ∀ i, i < 16 → nibInts.getD i 0 = I32 (P.nib i) := by decide
/-- an int of 32 bits is one of these -/
theorem I32_of_int (z : Int) (h : 0 ≤ z) (h2 : z ≤ 4294967295) : ∃ a : BitVec 32, z = I32 a := by
  refine ⟨BitVec.ofNat 32 z.toNat, ?_⟩
  rw [I32_ofNat _ (by omega)]
  omega
theorem I8_of_int (z : Int) (h : 0 ≤ z) (h2 : z ≤ 255) : ∃ a : UInt8, z = I8 a := by
  refine ⟨UInt8.ofNat z.toNat, ?_⟩
  rw [I8_of_nat _ (by omega)]
  omega
/-- a text of bytes, by their numbers -/
def lb (ns : List Nat) : List UInt8 := ns.map UInt8.ofNat
theorem lb_vals (ns : List Nat) (h : ns.all (· < 256) = true) : (lb ns).map B8 = ns.map fun (n : Nat) => Value.int .u8 (n : Int) := by
  unfold lb
  rw [List.map_map]
  apply List.map_congr_left
  intro n hn
  have := List.all_eq_true.1 h n hn
  have hlt : n < 256 := by simpa using this
  show B8 (UInt8.ofNat n) = _
  unfold B8 I8
  rw [UInt8.toNat_ofNat', Nat.mod_eq_of_lt (by omega)]
attribute [irreducible] I32 I8 low bt sh8
end Go.Proofs.YtkgfdcagninphaaDoor
