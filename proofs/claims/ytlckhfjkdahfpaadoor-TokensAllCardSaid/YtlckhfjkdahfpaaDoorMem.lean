/-
  The plain law of the check sum: the table of sixteen numbers does four steps of the division at once; the document's division, the greatest power first, is the same turned about;
  eight steps at once are a linear map of 32 bits, and Combine is its n-th power. No program in sight.
-/
import Derived.WalkKit
import Derived.WalkSpells
import Derived.WalkLawsBesides
import Derived.Lib.Hide
import Derived.Laws.AppendOwnNone
namespace Go.Proofs.YtlckhfjkdahfpaaDoor.P

def poly : BitVec 32 := 0xedb88320#32
def dvs : BitVec 32 := 0x04c11db7#32
/-- one step of the check sum -/
def s1 (c : BitVec 32) : BitVec 32 := (c >>> 1) ^^^ (if c.getLsbD 0 then poly else 0#32)
def it {α : Type} (f : α → α) : Nat → α → α
  | 0, x => x
  | n + 1, x => it f n (f x)
theorem it_add {α : Type} (f : α → α) (m n : Nat) (x : α) : it f (m + n) x = it f n (it f m x) := by
  induction m generalizing x with
  | zero => simp [it]
  | succ m ih => rw [Nat.succ_add]; exact ih _
theorem it_succ' {α : Type} (f : α → α) (n : Nat) (x : α) : it f (n + 1) x = f (it f n x) := by
  rw [it_add f n 1 x]; rfl
theorem it_comm {α : Type} (f : α → α) (n : Nat) (x : α) : it f n (f x) = f (it f n x) := it_succ' f n x

theorem s1_xor (a b : BitVec 32) : s1 (a ^^^ b) = s1 a ^^^ s1 b := by
  unfold s1
  rw [BitVec.getLsbD_xor, BitVec.ushiftRight_xor_distrib]
  generalize a >>> 1 = x
  generalize b >>> 1 = y
  generalize poly = p
  cases a.getLsbD 0 <;> cases b.getLsbD 0
  · simp
  · simp [BitVec.xor_assoc]
  · simp only [Bool.xor_false, if_true, if_false, Bool.false_eq_true]
    rw [BitVec.xor_zero, BitVec.xor_assoc, BitVec.xor_assoc, BitVec.xor_comm p y]
  · simp only [Bool.xor_true, Bool.not_true, if_true, if_false, Bool.false_eq_true]
    rw [BitVec.xor_zero, BitVec.xor_assoc x p, ← BitVec.xor_assoc p y p, BitVec.xor_comm p y, BitVec.xor_assoc y p p, BitVec.xor_self, BitVec.xor_zero]
theorem s1_zero : s1 0#32 = 0#32 := by decide
theorem it_xor {f : BitVec 32 → BitVec 32} (h : ∀ a b, f (a ^^^ b) = f a ^^^ f b) (n : Nat) (a b : BitVec 32) : it f n (a ^^^ b) = it f n a ^^^ it f n b := by
  induction n generalizing a b with
  | zero => rfl
  | succ n ih => simp [it, h, ih]
theorem it_zero {f : BitVec 32 → BitVec 32} (h : f 0#32 = 0#32) (n : Nat) : it f n 0#32 = 0#32 := by
  induction n with
  | zero => rfl
  | succ n ih => simp [it, h, ih]
theorem s1_even (c : BitVec 32) (h : c.getLsbD 0 = false) : s1 c = c >>> 1 := by
  unfold s1; rw [h]; simp

def nibs : List (BitVec 32) := [0x00000000, 0x1db71064, 0x3b6e20c8, 0x26d930ac, 0x76dc4190, 0x6b6b51f4, 0x4db26158, 0x5005713c, 0xedb88320, 0xf00f9344, 0xd6d6a3e8, 0xcb61b38c, 0x9b64c2b0, 0x86d3d2d4, 0xa00ae278, 0xbdbdf21c]
def nib (i : Nat) : BitVec 32 := nibs.getD i 0
def st4 (c : BitVec 32) : BitVec 32 := nib (c &&& 15#32).toNat ^^^ (c >>> 4)

theorem low_lt (c : BitVec 32) : (c &&& 15#32).toNat < 16 := by
  rw [BitVec.toNat_and]; exact Nat.lt_of_le_of_lt Nat.and_le_right (by decide)
theorem nib_it : ∀ i, i < 16 → it s1 4 (BitVec.ofNat 32 i) = nib i := by decide
theorem st4_eq (c : BitVec 32) : st4 c = it s1 4 c := by
  have hsplit : c = (c &&& 15#32) ^^^ (c &&& 0xfffffff0#32) := by
    apply BitVec.eq_of_getLsbD_eq
    intro i hi
    rw [BitVec.getLsbD_xor, BitVec.getLsbD_and, BitVec.getLsbD_and]
    have : ∀ i, i < 32 → (15#32).getLsbD i = !(0xfffffff0#32).getLsbD i := by decide
    rw [this i hi]
    cases c.getLsbD i <;> cases (0xfffffff0#32).getLsbD i <;> rfl
  have hlow : it s1 4 (c &&& 15#32) = nib (c &&& 15#32).toNat := by
    have := nib_it _ (low_lt c)
    rwa [BitVec.ofNat_toNat, BitVec.setWidth_eq] at this
  have hhigh : it s1 4 (c &&& 0xfffffff0#32) = c >>> 4 := by
    have key : ∀ k, k < 4 → (0xfffffff0#32).getLsbD k = false := by decide
    have e : ∀ k, k < 4 → s1 ((c &&& 0xfffffff0#32) >>> k) = (c &&& 0xfffffff0#32) >>> (k + 1) := by
      intro k hk
      rw [s1_even _ (by simp [key k hk]), BitVec.shiftRight_add]
    have h0 := e 0 (by omega)
    have h1 := e 1 (by omega)
    have h2 := e 2 (by omega)
    have h3 := e 3 (by omega)
    rw [BitVec.ushiftRight_zero] at h0
    show s1 (s1 (s1 (s1 _))) = _
    rw [h0, h1, h2, h3]
    apply BitVec.eq_of_getLsbD_eq
    intro i hi
    rw [BitVec.getLsbD_ushiftRight, BitVec.getLsbD_ushiftRight, BitVec.getLsbD_and]
    by_cases hh : i < 28
    · have : ∀ j, j < 28 → (0xfffffff0#32).getLsbD (4 + j) = true := by decide
      rw [this i hh, Bool.and_true]
    · rw [BitVec.getLsbD_of_ge c (4 + i) (by omega), Bool.false_and]
  conv => rhs; rw [hsplit]
  rw [it_xor s1_xor, hlow, hhigh]
  rfl

/-- a byte comes in -/
def wide (x : UInt8) : BitVec 32 := x.toBitVec.setWidth 32
def up (c : BitVec 32) (x : UInt8) : BitVec 32 := st4 (st4 (c ^^^ wide x))
theorem up_eq (c : BitVec 32) (x : UInt8) : up c x = it s1 8 (c ^^^ wide x) := by
  unfold up; rw [st4_eq, st4_eq, ← it_add]
def run (c : BitVec 32) (l : List UInt8) : BitVec 32 := l.foldl up c
def update (sum : BitVec 32) (l : List UInt8) : BitVec 32 := ~~~ (run (~~~ sum) l)

theorem run_append (c : BitVec 32) (l r : List UInt8) : run c (l ++ r) = run (run c l) r := by simp [run]
theorem update_append (c : BitVec 32) (l r : List UInt8) : update c (l ++ r) = update (update c l) r := by
  simp [update, run_append]

/-! the document's division -/
def mulX (p : BitVec 32) : BitVec 32 := (p <<< 1) ^^^ (if p.getLsbD 31 then dvs else 0#32)
def rv (p : BitVec 32) : BitVec 32 := p.reverse
theorem rv_get (p : BitVec 32) (i : Nat) (h : i < 32) : (rv p).getLsbD i = p.getLsbD (31 - i) := by
  unfold rv
  rw [BitVec.getLsbD_reverse, BitVec.getMsbD]
  simp [h]
theorem rv_rv (p : BitVec 32) : rv (rv p) = p := by
  apply BitVec.eq_of_getLsbD_eq
  intro i hi
  rw [rv_get _ _ hi, rv_get _ _ (by omega)]
  congr 1
  omega
theorem rv_xor (a b : BitVec 32) : rv (a ^^^ b) = rv a ^^^ rv b := by
  apply BitVec.eq_of_getLsbD_eq
  intro i hi
  rw [BitVec.getLsbD_xor, rv_get _ _ hi, rv_get _ _ hi, rv_get _ _ hi, BitVec.getLsbD_xor]
theorem rv_zero : rv 0#32 = 0#32 := by decide +kernel
theorem rv_dvs : rv dvs = poly := by decide +kernel
theorem rv_mulX (p : BitVec 32) : rv (mulX p) = s1 (rv p) := by
  have hs : rv (p <<< 1) = rv p >>> 1 := by
    apply BitVec.eq_of_getLsbD_eq
    intro i hi
    rw [rv_get _ _ hi, BitVec.getLsbD_ushiftRight, BitVec.getLsbD_shiftLeft]
    by_cases h : i < 31
    · rw [rv_get _ _ (by omega), show 31 - (1 + i) = 31 - i - 1 by omega]
      simp [show 31 - i < 32 by omega, show ¬ (31 - i < 1) by omega]
    · have : i = 31 := by omega
      subst this
      rw [BitVec.getLsbD_of_ge (rv p) (1 + 31) (by omega)]
      simp
  unfold mulX s1
  rw [rv_xor, hs, rv_get p 0 (by omega)]
  cases p.getLsbD 31 <;> simp [rv_zero, rv_dvs]

/-- one bit comes in at the top -/
def bitOf (x : UInt8) (k : Nat) : Bool := x.toBitVec.getLsbD k
def divBit (r : BitVec 32) (b : Bool) : BitVec 32 := (r <<< 1) ^^^ (if r.getLsbD 31 != b then dvs else 0#32)
def divByte : Nat → BitVec 32 → UInt8 → BitVec 32
  | 0, r, _ => r
  | k + 1, r, x => divBit (divByte k r x) (bitOf x k)
def divRun (r : BitVec 32) (l : List UInt8) : BitVec 32 := l.foldl (divByte 8) r

def one (b : Bool) : BitVec 32 := if b then 1#32 else 0#32
theorem rv_divBit (r : BitVec 32) (b : Bool) : rv (divBit r b) = s1 (rv r ^^^ one b) := by
  have h1 : divBit r b = mulX r ^^^ (if b then dvs else 0#32) := by
    unfold divBit mulX
    cases r.getLsbD 31 <;> cases b <;> simp [BitVec.xor_assoc]
  rw [h1, rv_xor, rv_mulX, s1_xor]
  cases b
  · simp [one, rv_zero, s1_zero]
  · have : s1 (one true) = poly := by decide
    rw [this]; simp [rv_dvs]

theorem shr_get (a : BitVec 32) (k j : Nat) : (a >>> k).getLsbD j = a.getLsbD (k + j) := by simp
/-- the bits of x below k have come in, those above stand waiting -/
theorem rv_divByte (r : BitVec 32) (x : UInt8) : ∀ k, k ≤ 8 → rv (divByte k r x) ^^^ (wide x >>> k) = it s1 k (rv r ^^^ wide x)
  | 0, _ => by simp [divByte, it]
  | k + 1, h => by
    have ih := rv_divByte r x k (by omega)
    rw [it_succ', ← ih]
    show rv (divBit (divByte k r x) (bitOf x k)) ^^^ _ = _
    rw [rv_divBit]
    have e : wide x >>> k = one (bitOf x k) ^^^ ((wide x >>> (k + 1)) <<< 1) := by
      apply BitVec.eq_of_getLsbD_eq
      intro i hi
      rw [BitVec.getLsbD_xor, shr_get, BitVec.getLsbD_shiftLeft, shr_get]
      have hb : (wide x).getLsbD k = bitOf x k := by simp [wide, bitOf]; omega
      rcases Nat.eq_zero_or_pos i with rfl | hp
      · simp only [Nat.add_zero, hb]
        cases bitOf x k <;> simp [one]
      · have h0 : (one (bitOf x k)).getLsbD i = false := by
          cases bitOf x k
          · simp [one]
          · show (1#32).getLsbD i = false
            rw [BitVec.getLsbD_one]; simp; omega
        rw [h0, show k + 1 + (i - 1) = k + i by omega]
        simp [hi, show ¬ i < 1 by omega]
    rw [e, ← BitVec.xor_assoc, s1_xor (rv (divByte k r x) ^^^ one (bitOf x k))]
    congr 1
    rw [s1_even _ (by simp)]
    apply BitVec.eq_of_getLsbD_eq
    intro i hi
    rw [shr_get, shr_get, BitVec.getLsbD_shiftLeft, shr_get]
    by_cases hh : 1 + i < 32
    · rw [show k + 1 + (1 + i - 1) = k + 1 + i by omega]
      simp [hh]
    · rw [BitVec.getLsbD_of_ge _ (k + 1 + i) (by omega)]
      simp [hh]
theorem rv_divByte8 (r : BitVec 32) (x : UInt8) : rv (divByte 8 r x) = up (rv r) x := by
  have h := rv_divByte r x 8 (by omega)
  have hz : wide x >>> 8 = 0#32 := by
    apply BitVec.eq_of_getLsbD_eq
    intro i hi
    rw [shr_get]
    simp [wide]
  rw [up_eq, ← h, hz, BitVec.xor_zero]
theorem rv_divRun (r : BitVec 32) (l : List UInt8) : rv (divRun r l) = run (rv r) l := by
  induction l generalizing r with
  | nil => rfl
  | cons x l ih =>
    show rv (divRun (divByte 8 r x) l) = run (up (rv r) x) l
    rw [ih, rv_divByte8]
theorem xor_ones (c : BitVec 32) : c ^^^ 0xffffffff#32 = ~~~ c := by
  exact (show (0xffffffff#32) = BitVec.allOnes 32 from rfl) ▸ BitVec.xor_allOnes
theorem ref_update (sum : BitVec 32) (l : List UInt8) : rv (divRun (rv (sum ^^^ 0xffffffff#32)) l) ^^^ 0xffffffff#32 = update sum l := by
  rw [rv_divRun, rv_rv, xor_ones, xor_ones]; rfl

/-! the order of the bits turned about, by a loop -/
theorem turn_step (v : BitVec 32) (i : Nat) (hi : i < 32) :
    ((rv v >>> (32 - i)) <<< 1) ||| ((v >>> i) &&& 1#32) = rv v >>> (32 - (i + 1)) := by
  apply BitVec.eq_of_getLsbD_eq
  intro j hj
  rw [BitVec.getLsbD_or, BitVec.getLsbD_shiftLeft, shr_get, BitVec.getLsbD_and, shr_get, shr_get]
  rcases Nat.eq_zero_or_pos j with rfl | hp
  · simp
    rw [rv_get _ _ (by omega)]
    congr 1
    omega
  · have h1 : (1#32).getLsbD j = false := by simp; omega
    simp only [h1, Bool.and_false, Bool.or_false]
    simp [hj, show ¬ j < 1 by omega]
    congr 1
    omega

/-! linear maps of 32 bits -/
def unit (k : Nat) : BitVec 32 := 1#32 <<< k
def lin (m : Nat → BitVec 32) (v : BitVec 32) : Nat → BitVec 32
  | 0 => 0#32
  | k + 1 => lin m v k ^^^ (if v.getLsbD k then m k else 0#32)
structure Lin (f : BitVec 32 → BitVec 32) : Prop where
  zero : f 0#32 = 0#32
  xor : ∀ a b, f (a ^^^ b) = f a ^^^ f b
theorem Lin.it {f : BitVec 32 → BitVec 32} (h : Lin f) (n : Nat) : Lin (it f n) := ⟨it_zero h.zero n, it_xor h.xor n⟩
theorem lin_s1 : Lin s1 := ⟨s1_zero, s1_xor⟩
theorem lin_units (v : BitVec 32) : ∀ k i, (lin unit v k).getLsbD i = (decide (i < k) && v.getLsbD i)
  | 0, i => by simp [lin]
  | k + 1, i => by
    simp only [lin, BitVec.getLsbD_xor, lin_units v k i]
    by_cases hi : i = k
    · subst hi
      cases hv : v.getLsbD i
      · simp
      · have : i < 32 := by
          rcases Nat.lt_or_ge i 32 with h | h
          · exact h
          · rw [BitVec.getLsbD_of_ge _ _ h] at hv; cases hv
        simp [unit, this]
    · have : (if v.getLsbD k then unit k else 0#32).getLsbD i = false := by
        cases v.getLsbD k
        · simp
        · simp only [if_true, unit, BitVec.getLsbD_shiftLeft]
          by_cases h : i < k
          · simp [h]
          · simp [h]; omega
      rw [this]
      by_cases h : i < k
      · simp [h, show i < k + 1 by omega]
      · simp [h, show ¬ i < k + 1 by omega]
theorem lin_unit (v : BitVec 32) : lin unit v 32 = v := by
  apply BitVec.eq_of_getLsbD_eq
  intro i hi
  rw [lin_units]; simp [hi]
theorem lin_map {f : BitVec 32 → BitVec 32} (h : Lin f) (m : Nat → BitVec 32) (v : BitVec 32) : ∀ k, lin (fun i => f (m i)) v k = f (lin m v k)
  | 0 => h.zero.symm
  | k + 1 => by
    simp only [lin, lin_map h m v k, h.xor]
    cases v.getLsbD k <;> simp [h.zero]
theorem lin_of {f : BitVec 32 → BitVec 32} (h : Lin f) (v : BitVec 32) : lin (fun i => f (unit i)) v 32 = f v := by
  rw [lin_map h unit v 32, lin_unit]
theorem lin_congr {m m' : Nat → BitVec 32} (v : BitVec 32) : ∀ k, (∀ i, i < k → m i = m' i) → lin m v k = lin m' v k
  | 0, _ => rfl
  | k + 1, h => by simp only [lin, lin_congr v k (fun i hi => h i (by omega)), h k (by omega)]
theorem lin_stop (m : Nat → BitVec 32) (v : BitVec 32) (i : Nat) (h : v >>> i = 0#32) : ∀ k, lin m v (i + k) = lin m v i
  | 0 => rfl
  | k + 1 => by
    show lin m v (i + k) ^^^ _ = _
    rw [lin_stop m v i h k]
    have : v.getLsbD (i + k) = false := by rw [← shr_get, h]; simp
    simp [this]
theorem lin_done (m : Nat → BitVec 32) (v : BitVec 32) (i : Nat) (hi : i ≤ 32) (h : v >>> i = 0#32) : lin m v i = lin m v 32 := by
  have := lin_stop m v i h (32 - i)
  rw [show i + (32 - i) = 32 by omega] at this
  exact this.symm

/-- Combine: 8n steps -/
def combine (a b : BitVec 32) (n : Nat) : BitVec 32 := it s1 (8 * n) a ^^^ b
/-- the matrix that Combine begins with is one step's -/
def m0 (i : Nat) : BitVec 32 := if i = 0 then poly else unit (i - 1)
theorem m0_eq : ∀ i, i < 32 → m0 i = s1 (unit i) := by decide
/-- a matrix of f squared is one of f twice -/
theorem square_eq {f : BitVec 32 → BitVec 32} (h : Lin f) (m : Nat → BitVec 32) (hm : ∀ i, i < 32 → m i = f (unit i)) (i : Nat) (hi : i < 32) : lin m (m i) 32 = f (f (unit i)) := by
  rw [lin_congr _ 32 hm, lin_of h, hm i hi]
theorem it_two (n : Nat) (x : BitVec 32) : it s1 n (it s1 n x) = it s1 (2 * n) x := by
  rw [← it_add]; congr 1; omega

/-! the product of two polynomials -/
def prodStep (p q out : BitVec 32) (i : Nat) : BitVec 32 := mulX out ^^^ (if p.getLsbD i then q else 0#32)
/-- from bit 31 down to bit i -/
def prodTo (p q : BitVec 32) : Nat → BitVec 32
  | 0 => 0#32
  | k + 1 => prodStep p q (prodTo p q k) (31 - k)
def product (p q : BitVec 32) : BitVec 32 := prodTo p q 32
theorem mulX_xor (a b : BitVec 32) : mulX (a ^^^ b) = mulX a ^^^ mulX b := by
  have h : rv (mulX (a ^^^ b)) = rv (mulX a ^^^ mulX b) := by rw [rv_mulX, rv_xor, rv_xor, rv_mulX, rv_mulX, s1_xor]
  have := congrArg rv h
  rwa [rv_rv, rv_rv] at this
theorem mulX_zero : mulX 0#32 = 0#32 := by decide
theorem lin_mulX : Lin mulX := ⟨mulX_zero, mulX_xor⟩
theorem prodTo_map {f : BitVec 32 → BitVec 32} (h : Lin f) (hc : ∀ x, f (mulX x) = mulX (f x)) (p q : BitVec 32) : ∀ k, prodTo p (f q) k = f (prodTo p q k)
  | 0 => h.zero.symm
  | k + 1 => by
    simp only [prodTo, prodStep, prodTo_map h hc p q k, h.xor, hc]
    cases p.getLsbD (31 - k) <;> simp [h.zero]
theorem prodTo_one (p : BitVec 32) : ∀ k, k ≤ 32 → prodTo p 1#32 k = p >>> (32 - k)
  | 0, _ => by
    apply BitVec.eq_of_getLsbD_eq
    intro i hi
    rw [shr_get]
    simp [prodTo]
  | k + 1, h => by
    simp only [prodTo, prodStep, prodTo_one p k (by omega)]
    have ht : (p >>> (32 - k)).getLsbD 31 = false := by
      rw [shr_get]; exact BitVec.getLsbD_of_ge _ _ (by omega)
    unfold mulX
    rw [ht]
    apply BitVec.eq_of_getLsbD_eq
    intro i hi
    have e : 32 - (k + 1) = 31 - k := by omega
    simp only [BitVec.getLsbD_xor, BitVec.getLsbD_shiftLeft, shr_get, e]
    rcases Nat.eq_zero_or_pos i with rfl | hp
    · cases p.getLsbD (31 - k) <;> simp
    · have h1 : (if p.getLsbD (31 - k) then (1#32) else 0#32).getLsbD i = false := by
        cases p.getLsbD (31 - k)
        · simp
        · simp; omega
      rw [h1]
      simp [hi, show ¬ i < 1 by omega]
      congr 1
      omega
theorem product_pow (p : BitVec 32) (n : Nat) : product p (it mulX n 1#32) = it mulX n p := by
  have hc : ∀ x, it mulX n (mulX x) = mulX (it mulX n x) := fun x => it_comm mulX n x
  have h := prodTo_map (lin_mulX.it n) hc p 1#32 32
  unfold product
  rw [h, prodTo_one p 32 (by omega)]
  simp
theorem rv_it (p : BitVec 32) : ∀ n, rv (it mulX n p) = it s1 n (rv p)
  | 0 => rfl
  | n + 1 => by rw [it_succ', it_succ', rv_mulX, rv_it p n]
theorem pow8 : it mulX 8 1#32 = 256#32 := by decide
theorem it_mul_two (n : Nat) (x : BitVec 32) : it mulX n (it mulX n x) = it mulX (2 * n) x := by
  rw [← it_add]; congr 1; omega
theorem product_sq (n : Nat) : product (it mulX n 1#32) (it mulX n 1#32) = it mulX (2 * n) 1#32 := by
  rw [product_pow, it_mul_two]

/-! the sums of two texts; turned bytes -/
theorem run_xor : ∀ (l : List UInt8) (a b : BitVec 32), run (a ^^^ b) l = run a l ^^^ it s1 (8 * l.length) b
  | [], a, b => by simp [run, it]
  | x :: l, a, b => by
    show run (up (a ^^^ b) x) l = run (up a x) l ^^^ _
    have e : up (a ^^^ b) x = up a x ^^^ it s1 8 b := by
      rw [up_eq, up_eq, ← it_xor s1_xor]
      congr 1
      rw [BitVec.xor_assoc, BitVec.xor_comm b, ← BitVec.xor_assoc]
    rw [e, run_xor l, ← it_add]
    congr 2
    simp; omega
theorem update_split (x y : List UInt8) : update (update 0#32 x) y = combine (update 0#32 x) (update 0#32 y) y.length := by
  unfold combine
  generalize update 0#32 x = s
  unfold update
  have h : ~~~ s = ~~~ (0#32) ^^^ s := by
    rw [BitVec.xor_comm]; exact (by rw [show ~~~ (0#32) = 0xffffffff#32 from rfl, xor_ones])
  rw [h, run_xor]
  rw [BitVec.not_xor_left, BitVec.xor_comm]

/-! three texts of one length; what is turned within four bytes -/
theorem wide_xor (x y : UInt8) : wide (x ^^^ y) = wide x ^^^ wide y := by
  unfold wide
  apply BitVec.eq_of_getLsbD_eq
  intro i hi
  simp [UInt8.toBitVec_xor, hi]
theorem up_xor (a b : BitVec 32) (x y : UInt8) : up (a ^^^ b) (x ^^^ y) = up a x ^^^ up b y := by
  rw [up_eq, up_eq, up_eq, ← it_xor s1_xor, wide_xor]
  congr 1
  rw [BitVec.xor_assoc, BitVec.xor_assoc, ← BitVec.xor_assoc b, BitVec.xor_comm b (wide x), BitVec.xor_assoc]
def zx (l r : List UInt8) : List UInt8 := List.zipWith (fun x y => x ^^^ y) l r
theorem run_zx : ∀ (l r : List UInt8) (a b : BitVec 32), l.length = r.length → run (a ^^^ b) (zx l r) = run a l ^^^ run b r
  | [], [], a, b, _ => rfl
  | x :: l, y :: r, a, b, h => by
    show run (up (a ^^^ b) (x ^^^ y)) (zx l r) = run (up a x) l ^^^ run (up b y) r
    rw [up_xor, run_zx l r _ _ (by simpa using h)]
  | [], _ :: _, _, _, h => by simp at h
  | _ :: _, [], _, _, h => by simp at h
theorem not_xor3 (a b c : BitVec 32) : ~~~ (a ^^^ (b ^^^ c)) = ~~~ a ^^^ ~~~ b ^^^ ~~~ c := by
  apply BitVec.eq_of_getLsbD_eq
  intro i hi
  simp only [BitVec.getLsbD_not, BitVec.getLsbD_xor, hi, decide_true, Bool.true_and]
  cases a.getLsbD i <;> cases b.getLsbD i <;> cases c.getLsbD i <;> rfl
theorem update_three (a b c : List UInt8) (h1 : a.length = b.length) (h2 : a.length = c.length) :
    update 0#32 (zx a (zx b c)) = update 0#32 a ^^^ update 0#32 b ^^^ update 0#32 c := by
  unfold update
  have e : ~~~ (0#32) = ~~~ (0#32) ^^^ (~~~ (0#32) ^^^ ~~~ (0#32)) := by simp
  have hl : (zx b c).length = a.length := by unfold zx; rw [List.length_zipWith]; omega
  rw [← not_xor3, ← run_zx b c _ _ (by omega), ← run_zx a _ _ _ (by omega), ← e]
/-- a step loses nothing -/
theorem s1_ker (c : BitVec 32) (h : s1 c = 0#32) : c = 0#32 := by
  unfold s1 at h
  cases h0 : c.getLsbD 0
  · rw [h0] at h
    simp only [if_false, Bool.false_eq_true, BitVec.xor_zero] at h
    apply BitVec.eq_of_getLsbD_eq
    intro i hi
    rcases Nat.eq_zero_or_pos i with rfl | hp
    · rw [h0]; simp
    · have := congrArg (fun x => x.getLsbD (i - 1)) h
      simp only [BitVec.getLsbD_ushiftRight] at this
      rw [show 1 + (i - 1) = i by omega] at this
      rw [this]; simp
  · rw [h0] at h
    have := congrArg (fun x => x.getLsbD 31) h
    rw [if_pos rfl] at this
    simp only [BitVec.getLsbD_xor, BitVec.getLsbD_ushiftRight] at this
    rw [BitVec.getLsbD_of_ge c (1 + 31) (by omega)] at this
    have hp : poly.getLsbD 31 = true := by decide
    rw [hp] at this
    simp at this
theorem it_ker (n : Nat) (c : BitVec 32) (h : it s1 n c = 0#32) : c = 0#32 := by
  induction n generalizing c with
  | zero => exact h
  | succ n ih => exact s1_ker c (ih _ h)
/-- so many bytes in one number, the first one lowest -/
def pk : List UInt8 → BitVec 32
  | [] => 0#32
  | x :: l => wide x ^^^ (pk l <<< 8)
theorem pk_high : ∀ (l : List UInt8) (i : Nat), 8 * l.length ≤ i → (pk l).getLsbD i = false
  | [], _, _ => by simp [pk]
  | x :: l, i, h => by
    have hx : (wide x).getLsbD i = false := by
      unfold wide
      rw [BitVec.getLsbD_setWidth]
      have : x.toBitVec.getLsbD i = false := BitVec.getLsbD_of_ge _ _ (by simp at h; omega)
      rw [this]; simp
    show (wide x ^^^ (pk l <<< 8)).getLsbD i = false
    rw [BitVec.getLsbD_xor, hx, BitVec.getLsbD_shiftLeft]
    have h2 := pk_high l (i - 8) (by simp at h; omega)
    rw [h2]; simp
/-- eight steps take a shift of eight back -/
theorem it_shl (y : BitVec 32) (h : ∀ i, 24 ≤ i → y.getLsbD i = false) : it s1 8 (y <<< 8) = y := by
  have e : ∀ k, k ≤ 8 → it s1 k (y <<< 8) = y <<< (8 - k) := by
    intro k
    induction k with
    | zero => intro _; rfl
    | succ k ih =>
      intro hk
      rw [it_succ', ih (by omega), s1_even _ (by rw [BitVec.getLsbD_shiftLeft]; simp; omega)]
      apply BitVec.eq_of_getLsbD_eq
      intro i hi
      rw [BitVec.getLsbD_ushiftRight, BitVec.getLsbD_shiftLeft, BitVec.getLsbD_shiftLeft]
      by_cases h31 : 1 + i < 32
      · rw [show 1 + i - (8 - k) = i - (8 - (k + 1)) by omega]
        have : decide (1 + i < 8 - k) = decide (i < 8 - (k + 1)) := by simp; omega
        rw [this]; simp [h31, hi]
      · have : i = 31 := by omega
        subst this
        have hh := h (31 - (7 - k)) (by omega)
        simp [hh]
  have := e 8 (by omega)
  rwa [show 8 - 8 = 0 from rfl, BitVec.shiftLeft_zero] at this
theorem run_pk : ∀ (l : List UInt8) (c : BitVec 32), l.length ≤ 4 → run c l = it s1 (8 * l.length) (c ^^^ pk l)
  | [], c, _ => by simp [run, pk, it]
  | x :: l, c, h => by
    have hl : l.length ≤ 3 := by simpa using h
    show run (up c x) l = it s1 (8 * (l.length + 1)) (c ^^^ (wide x ^^^ (pk l <<< 8)))
    rw [run_pk l _ (by omega), show 8 * (l.length + 1) = 8 + 8 * l.length by omega, it_add]
    congr 1
    rw [← BitVec.xor_assoc, it_xor s1_xor, it_shl _ fun i hi => pk_high l i (by omega), up_eq]
theorem pk_zero : ∀ (l : List UInt8), l.length ≤ 4 → pk l = 0#32 → l.all (· == 0) = true
  | [], _, _ => rfl
  | x :: l, hl, h => by
    have hsh : ∀ i, i < 32 → ((wide x).getLsbD i ^^ (pk l <<< 8).getLsbD i) = false := by
      intro i hi
      have := congrArg (fun z => z.getLsbD i) h
      simpa [pk] using this
    have hx : x = 0 := by
      apply UInt8.toBitVec_inj.1
      apply BitVec.eq_of_getLsbD_eq
      intro i hi
      have h1 := hsh i (by omega)
      rw [BitVec.getLsbD_shiftLeft] at h1
      have h2 : (wide x).getLsbD i = x.toBitVec.getLsbD i := by unfold wide; rw [BitVec.getLsbD_setWidth]; simp; omega
      have h3 : (decide (i < 32) && !decide (i < 8) && (pk l).getLsbD (i - 8)) = false := by simp [show i < 8 from hi]
      rw [h2, h3, Bool.xor_false] at h1
      rw [h1]; simp
    have hp : pk l = 0#32 := by
      apply BitVec.eq_of_getLsbD_eq
      intro i hi
      by_cases h24 : i < 24
      · have h1 := hsh (i + 8) (by omega)
        have h2 : (wide x).getLsbD (i + 8) = false := by
          unfold wide; rw [BitVec.getLsbD_setWidth, BitVec.getLsbD_of_ge x.toBitVec (i + 8) (by omega)]; simp
        rw [h2, BitVec.getLsbD_shiftLeft] at h1
        simp [show i + 8 < 32 by omega] at h1
        simp [h1]
      · rw [pk_high l i (by simp at hl; omega)]; simp
    simp [hx, pk_zero l (by simp at hl; omega) hp]
theorem run_zero : ∀ (l : List UInt8), l.all (· == 0) = true → run 0#32 l = 0#32
  | [], _ => rfl
  | x :: l, h => by
    simp only [List.all_cons, Bool.and_eq_true, beq_iff_eq] at h
    show run (up 0#32 x) l = 0#32
    rw [h.1, show up 0#32 0 = 0#32 by decide]
    exact run_zero l h.2
theorem run_same (m t : List UInt8) (c : BitVec 32) (h : m.length = t.length) : run c (zx m t) = run c m ^^^ run 0#32 t := by
  have := run_zx m t c 0#32 h
  rwa [BitVec.xor_zero] at this
/-- the sums part just where something is turned -/
theorem update_burst (pre mid post t : List UInt8) (h : mid.length = t.length) (h4 : t.length ≤ 4) :
    (update 0#32 (pre ++ (zx mid t ++ post)) == update 0#32 (pre ++ (mid ++ post))) = t.all (· == 0) := by
  unfold update
  rw [run_append, run_append, run_append, run_append]
  generalize run (~~~ (0#32)) pre = c
  rw [run_same mid t c h, run_xor]
  cases ht : t.all (· == 0)
  · apply beq_eq_false_iff_ne.2
    intro e
    have e2 := congrArg (fun z => ~~~ z) e
    simp only [BitVec.not_not] at e2
    have e3 : it s1 (8 * post.length) (run 0#32 t) = 0#32 := by
      have := congrArg (fun z => run (run c mid) post ^^^ z) e2
      simpa [← BitVec.xor_assoc] using this
    have e4 := it_ker _ _ e3
    rw [run_pk t _ h4, BitVec.zero_xor] at e4
    rw [pk_zero t h4 (it_ker _ _ e4)] at ht
    cases ht
  · rw [run_zero t ht, it_zero s1_zero, BitVec.xor_zero]
    exact beq_self_eq_true _
end Go.Proofs.YtlckhfjkdahfpaaDoor.P

/- Numbers of 8 and 32 bits as the walk has them: names that the walk's simp does not open, and what Go's operations make of them. No condition. -/
namespace Go.Proofs.YtlckhfjkdahfpaaDoor
open Go.RowKit

def I32 (a : BitVec 32) : Int := (a.toNat : Int)
def I8 (x : UInt8) : Int := (x.toNat : Int)
def B8 (x : UInt8) : Value := .int .u8 (I8 x)
theorem I32_lo (a : BitVec 32) : 0 ≤ I32 a := by unfold I32; omega
theorem I32_hi (a : BitVec 32) : I32 a ≤ 4294967295 := by unfold I32; have := a.isLt; omega
theorem I8_lo (x : UInt8) : 0 ≤ I8 x := by unfold I8; omega
theorem I8_hi (x : UInt8) : I8 x ≤ 255 := by unfold I8; have := x.toNat_lt; omega
theorem I32_inj {a b : BitVec 32} (h : I32 a = I32 b) : a = b := by
  unfold I32 at h; exact BitVec.eq_of_toNat_eq (by omega)
theorem I8_inj {a b : UInt8} (h : I8 a = I8 b) : a = b := by
  unfold I8 at h; exact UInt8.toNat_inj.1 (by omega)
theorem of32 (a : BitVec 32) : BitVec.ofInt 32 (I32 a) = a := by
  unfold I32; rw [BitVec.ofInt_natCast]; simp
theorem of8 (a : UInt8) : BitVec.ofInt 8 (I8 a) = a.toBitVec := by
  unfold I8; rw [BitVec.ofInt_natCast]; simp
theorem I8_ofBitVec (a : BitVec 8) : I8 (UInt8.ofBitVec a) = (a.toNat : Int) := by
  unfold I8; simp
theorem I32_ofNat (n : Nat) (h : n ≤ 4294967295) : I32 (BitVec.ofNat 32 n) = (n : Int) := by
  unfold I32; rw [BitVec.toNat_ofNat, Nat.mod_eq_of_lt (by omega)]
theorem wrap32_in (n : Int) (h : 0 ≤ n) (h2 : n ≤ 4294967295) : IntKind.u32.wrap n = n := by
  simp [IntKind.wrap, IntKind.bits, IntKind.signed]; omega
theorem wrap8_in (n : Int) (h : 0 ≤ n) (h2 : n ≤ 255) : IntKind.u8.wrap n = n := by
  simp [IntKind.wrap, IntKind.bits, IntKind.signed]; omega
theorem wrap_I32 (a : BitVec 32) : IntKind.u32.wrap (I32 a) = I32 a := wrap32_in _ (I32_lo a) (I32_hi a)
theorem wrap_I8 (x : UInt8) : IntKind.u32.wrap (I8 x) = I32 (P.wide x) := by
  rw [wrap32_in _ (I8_lo x) (by have := I8_hi x; omega)]
  unfold I8 I32 P.wide
  rw [BitVec.toNat_setWidth, Nat.mod_eq_of_lt (by have := x.toBitVec.isLt; omega)]; rfl
theorem bits_xor32 (a b : BitVec 32) : bits .xor .u32 (I32 a) (I32 b) = I32 (a ^^^ b) := by
  show IntKind.u32.wrap ((BitVec.ofInt 32 (I32 a) ^^^ BitVec.ofInt 32 (I32 b)).toNat : Int) = _
  rw [of32, of32]; exact wrap_I32 _
theorem bits_xor8 (a b : UInt8) : bits .xor .u8 (I8 a) (I8 b) = I8 (a ^^^ b) := by
  show IntKind.u8.wrap ((BitVec.ofInt 8 (I8 a) ^^^ BitVec.ofInt 8 (I8 b)).toNat : Int) = _
  rw [of8, of8, wrap8_in _ (by omega) (by have := (a.toBitVec ^^^ b.toBitVec).isLt; omega)]
  rfl
theorem bits_xor32_ones (a : BitVec 32) : bits .xor .u32 (I32 a) 4294967295 = I32 (~~~ a) := by
  have h : (4294967295 : Int) = I32 0xffffffff#32 := by decide
  rw [h, bits_xor32, P.xor_ones]
theorem bits_not32 (a : BitVec 32) : bits .xor .u32 IntKind.u32.max (I32 a) = I32 (~~~ a) := by
  have h : IntKind.u32.max = I32 0xffffffff#32 := by decide
  rw [h, bits_xor32, BitVec.xor_comm, P.xor_ones]
theorem bits_xor32_dvs (a : BitVec 32) : bits .xor .u32 (I32 a) 79764919 = I32 (a ^^^ P.dvs) := by
  have h : (79764919 : Int) = I32 P.dvs := by decide
  rw [h, bits_xor32]
def low (a : BitVec 32) : Nat := (a &&& 15#32).toNat
theorem bits_and15 (a : BitVec 32) : bits .and .u32 (I32 a) 15 = ((low a : Nat) : Int) := by
  show IntKind.u32.wrap ((BitVec.ofInt 32 (I32 a) &&& BitVec.ofInt 32 15).toNat : Int) = _
  rw [of32]; exact wrap_I32 _
theorem low_lt (a : BitVec 32) : low a < 16 := P.low_lt a
theorem nib_low (a : BitVec 32) : P.nib (low a) ^^^ (a >>> 4) = P.st4 a := rfl
theorem st_up (c : BitVec 32) (x : UInt8) : P.st4 (P.st4 (c ^^^ P.wide x)) = P.up c x := rfl
/-- a bit of a number -/
def bt (a : BitVec 32) (i : Nat) : Bool := a.getLsbD i
theorem bt_def (a : BitVec 32) (i : Nat) : bt a i = a.getLsbD i := rfl
theorem one_get (b : Bool) (i : Nat) : (P.one b).getLsbD i = (b && decide (i = 0)) := by
  cases b
  · show (0#32).getLsbD i = _; simp
  · show (1#32).getLsbD i = _; rw [BitVec.getLsbD_one]; simp
theorem bits_and1 (a : BitVec 32) : bits .and .u32 (I32 a) 1 = I32 (P.one (bt a 0)) := by
  show IntKind.u32.wrap ((BitVec.ofInt 32 (I32 a) &&& BitVec.ofInt 32 1).toNat : Int) = _
  rw [of32]
  have e : a &&& BitVec.ofInt 32 1 = P.one (bt a 0) := by
    apply BitVec.eq_of_getLsbD_eq
    intro i hi
    have h1 : BitVec.ofInt 32 1 = 1#32 := by decide
    rw [h1, BitVec.getLsbD_and, BitVec.getLsbD_one]
    rw [one_get]
    show _ = (a.getLsbD 0 && decide (i = 0))
    rcases Nat.eq_zero_or_pos i with rfl | hp
    · simp
    · simp [show i ≠ 0 by omega]
  rw [e]; exact wrap_I32 _
theorem one_eq1 (b : Bool) : (I32 (P.one b) == 1) = b := by cases b <;> decide
theorem one_ne (a b : Bool) : (I32 (P.one a) != I32 (P.one b)) = (a != b) := by cases a <;> cases b <;> decide
theorem shr_I32 (a : BitVec 32) (yk : IntKind) (n : Nat) (h : n ≤ 32) : Op.shift .shr .u32 (I32 a) yk (n : Int) = pure (.int .u32 (I32 (a >>> n))) := by
  rw [shift_shr_any _ _ _ _ (by omega)]
  have e : min ((n : Int)).toNat (IntKind.u32.bits) = n := by
    show min ((n : Int)).toNat 32 = n
    omega
  rw [e]
  unfold I32; rw [BitVec.toNat_ushiftRight, Nat.shiftRight_eq_div_pow]
  simp
theorem shr_pow (a : BitVec 32) (n : Nat) : I32 a / 2 ^ n = I32 (a >>> n) := by
  unfold I32; rw [BitVec.toNat_ushiftRight, Nat.shiftRight_eq_div_pow]; simp
theorem shr_I32_4 (a : BitVec 32) (yk : IntKind) : Op.shift .shr .u32 (I32 a) yk 4 = pure (.int .u32 (I32 (a >>> 4))) := shr_I32 a yk 4 (by omega)
theorem shr_I32_1 (a : BitVec 32) (yk : IntKind) : Op.shift .shr .u32 (I32 a) yk 1 = pure (.int .u32 (I32 (a >>> 1))) := shr_I32 a yk 1 (by omega)
theorem shr31 (a : BitVec 32) : a >>> 31 = P.one (bt a 31) := by
  apply BitVec.eq_of_getLsbD_eq
  intro i hi
  rw [BitVec.getLsbD_ushiftRight]
  rw [one_get]
  show _ = (a.getLsbD 31 && decide (i = 0))
  rcases Nat.eq_zero_or_pos i with rfl | hp
  · simp
  · rw [BitVec.getLsbD_of_ge a (31 + i) (by omega)]
    simp [show i ≠ 0 by omega]
theorem shr_I32_31 (a : BitVec 32) (yk : IntKind) : Op.shift .shr .u32 (I32 a) yk 31 = pure (.int .u32 (I32 (P.one (bt a 31)))) := by
  rw [← shr31]; exact shr_I32 a yk 31 (by omega)
theorem shl_I32_1 (a : BitVec 32) (yk : IntKind) : Op.shift .shl .u32 (I32 a) yk 1 = pure (.int .u32 (I32 (a <<< 1))) := by
  rw [shift_shl_any _ _ _ _ (by omega)]
  show pure (Value.int .u32 (IntKind.u32.wrap (I32 a * 2 ^ 1))) = _
  congr 2
  unfold I32
  rw [BitVec.toNat_shiftLeft, Nat.shiftLeft_eq]
  simp [IntKind.wrap, IntKind.bits, IntKind.signed]
theorem shl_one (n : Nat) (yk : IntKind) (h : n < 32) : Op.shift .shl .u32 1 yk (n : Int) = pure (.int .u32 (I32 (P.unit n))) := by
  rw [shift_shl_any _ _ _ _ (by omega)]
  have e : min ((n : Int)).toNat (IntKind.u32.bits) = n := by
    show min ((n : Int)).toNat 32 = n
    omega
  rw [e]
  have h2 : 2 ^ n ≤ 2 ^ 31 := Nat.pow_le_pow_right (by omega) (by omega)
  have e2 : I32 (P.unit n) = (2 : Int) ^ n := by
    unfold I32 P.unit
    rw [BitVec.toNat_shiftLeft, Nat.shiftLeft_eq]
    rw [show (1#32).toNat = 1 from rfl, Nat.one_mul, Nat.mod_eq_of_lt (by omega)]
    exact Int.natCast_pow 2 n
  have e3 : ((2 ^ n : Nat) : Int) = (2 : Int) ^ n := Int.natCast_pow 2 n
  rw [e2, wrap32_in]
  · simp
  · rw [Int.one_mul, ← e3]; exact Int.natCast_nonneg _
  · rw [Int.one_mul, ← e3]; exact Int.ofNat_le.2 (show 2 ^ n ≤ 4294967295 by omega)
theorem bits_or32 (a b : BitVec 32) : bits .or .u32 (I32 a) (I32 b) = I32 (a ||| b) := by
  show IntKind.u32.wrap ((BitVec.ofInt 32 (I32 a) ||| BitVec.ofInt 32 (I32 b)).toNat : Int) = _
  rw [of32, of32]; exact wrap_I32 _
theorem one_bt0 (a : BitVec 32) : P.one (bt a 0) = a &&& 1#32 := by
  apply BitVec.eq_of_getLsbD_eq
  intro i hi
  rw [one_get, BitVec.getLsbD_and, BitVec.getLsbD_one]
  show (a.getLsbD 0 && decide (i = 0)) = _
  rcases Nat.eq_zero_or_pos i with rfl | hp
  · simp
  · simp [show i ≠ 0 by omega]
theorem bt_shr (a : BitVec 32) (n : Nat) : bt (a >>> n) 0 = bt a n := by
  unfold bt; rw [BitVec.getLsbD_ushiftRight]; rfl
theorem I32_zero : I32 0#32 = 0 := by decide
theorem I32_poly : I32 (P.m0 0) = 3988292384 := by decide
theorem I32_256 : I32 256#32 = 256 := by decide
theorem I32_ne0 (a : BitVec 32) : (I32 a != 0) = (a != 0#32) := by
  have h : (0 : Int) = I32 0#32 := I32_zero.symm
  rw [h]
  unfold bne
  by_cases e : a = 0#32
  · subst e; rw [beq_self_eq_true, beq_self_eq_true]
  · rw [beq_eq_false_iff_ne.2 e, beq_eq_false_iff_ne.2 fun e2 => e (I32_inj e2)]
theorem prod_next (p q : BitVec 32) (k j : Nat) (h : j = 31 - k) : P.prodTo p q (k + 1) = ((P.prodTo p q k <<< 1) ^^^ (if bt (P.prodTo p q k) 31 then P.dvs else 0#32)) ^^^ (if bt p j then q else 0#32) := by
  subst h; rfl
theorem prod_tt {p q : BitVec 32} {k j : Nat} (h : j = 31 - k) (h1 : bt (P.prodTo p q k) 31 = true) (h2 : bt p j = true) : P.prodTo p q k <<< 1 ^^^ P.dvs ^^^ q = P.prodTo p q (k + 1) := by
  rw [prod_next p q k j h, h1, h2]; rfl
theorem prod_tf {p q : BitVec 32} {k j : Nat} (h : j = 31 - k) (h1 : bt (P.prodTo p q k) 31 = true) (h2 : bt p j = false) : P.prodTo p q k <<< 1 ^^^ P.dvs = P.prodTo p q (k + 1) := by
  rw [prod_next p q k j h, h1, h2]; simp
theorem prod_ft {p q : BitVec 32} {k j : Nat} (h : j = 31 - k) (h1 : bt (P.prodTo p q k) 31 = false) (h2 : bt p j = true) : P.prodTo p q k <<< 1 ^^^ q = P.prodTo p q (k + 1) := by
  rw [prod_next p q k j h, h1, h2]; simp
theorem prod_ff {p q : BitVec 32} {k j : Nat} (h : j = 31 - k) (h1 : bt (P.prodTo p q k) 31 = false) (h2 : bt p j = false) : P.prodTo p q k <<< 1 = P.prodTo p q (k + 1) := by
  rw [prod_next p q k j h, h1, h2]; simp
theorem pow_m0 (k : Nat) (h1 : 1 ≤ k) (h : k < 32) : (2 : Int) ^ (k - 1) % 4294967296 = I32 (P.m0 k) := by
  unfold P.m0
  rw [if_neg (by omega)]
  have := shl_one (k - 1) .i64 (by omega)
  rw [shift_shl_any _ _ _ _ (by omega)] at this
  have e : min (((k - 1 : Nat) : Int)).toNat (IntKind.u32.bits) = k - 1 := by
    show min (((k - 1 : Nat) : Int)).toNat 32 = k - 1
    omega
  rw [e] at this
  have h2 := Value.int.inj (Sem.pure.inj this)
  rw [← h2.2, Int.one_mul]
  simp [IntKind.wrap, IntKind.bits, IntKind.signed]
theorem and1_i64 (i : Int) (h : 0 ≤ i) (h2 : i ≤ 9223372036854775807) : (bits .and .i64 i 1 == 1) = decide (i.toNat % 2 = 1) := by
  obtain ⟨n, rfl⟩ := Int.eq_ofNat_of_zero_le h
  have e : bits .and .i64 (n : Int) 1 = ((n % 2 : Nat) : Int) := by
    show IntKind.i64.wrap ((BitVec.ofInt 64 (n : Int) &&& BitVec.ofInt 64 1).toNat : Int) = _
    have h1 : BitVec.ofInt 64 1 = 1#64 := by decide
    rw [h1, BitVec.ofInt_natCast, BitVec.toNat_and]
    have : ((BitVec.ofNat 64 n).toNat &&& (1#64).toNat) = n % 2 := by
      rw [BitVec.toNat_ofNat, show (1#64).toNat = 1 from rfl, Nat.and_one_is_mod]
      omega
    rw [this]
    simp [IntKind.wrap, IntKind.bits, IntKind.signed]
    omega
  rw [e]
  show (((n % 2 : Nat) : Int) == 1) = decide (n % 2 = 1)
  rcases Nat.mod_two_eq_zero_or_one n with h | h <;> rw [h] <;> rfl
/-- a byte's bits above k -/
def sh8 (x : UInt8) (k : Nat) : UInt8 := UInt8.ofBitVec (x.toBitVec >>> k)
theorem shr_I8 (x : UInt8) (yk : IntKind) (k : Nat) (h : k ≤ 8) : Op.shift .shr .u8 (I8 x) yk (k : Int) = pure (.int .u8 (I8 (sh8 x k))) := by
  rw [shift_shr_any _ _ _ _ (by omega)]
  have e : min ((k : Int)).toNat (IntKind.u8.bits) = k := by
    show min ((k : Int)).toNat 8 = k
    omega
  have e2 : I8 (sh8 x k) = I8 x / 2 ^ k := by
    unfold sh8
    rw [I8_ofBitVec, BitVec.toNat_ushiftRight, Nat.shiftRight_eq_div_pow]
    unfold I8
    simp
  rw [e, e2]
theorem shr_pow8 (x : UInt8) (n : Nat) : I8 x / 2 ^ n = I8 (sh8 x n) := by
  symm
  unfold sh8
  rw [I8_ofBitVec, BitVec.toNat_ushiftRight, Nat.shiftRight_eq_div_pow]
  unfold I8
  simp
theorem wide_sh8 (x : UInt8) (k : Nat) : bt (P.wide (sh8 x k)) 0 = P.bitOf x k := by
  unfold bt P.wide sh8 P.bitOf
  simp
  intro h
  rcases Nat.lt_or_ge k 8 with h8 | h8
  · omega
  · rw [BitVec.getLsbD_of_ge _ _ h8] at h; cases h
theorem I8_eq (a b : UInt8) : (I8 a == I8 b) = (a == b) := by
  by_cases h : a = b
  · subst h; rw [beq_self_eq_true, beq_self_eq_true]
  · rw [beq_eq_false_iff_ne.2 h, beq_eq_false_iff_ne.2 fun e => h (I8_inj e)]
theorem I8_ne (a b : UInt8) : (I8 a != I8 b) = (a != b) := by
  unfold bne; rw [I8_eq]
theorem I32_eq (a b : BitVec 32) : (I32 a == I32 b) = (a == b) := by
  by_cases h : a = b
  · subst h; rw [beq_self_eq_true, beq_self_eq_true]
  · rw [beq_eq_false_iff_ne.2 h, beq_eq_false_iff_ne.2 fun e => h (I32_inj e)]
theorem I32_ne (a b : BitVec 32) : (I32 a != I32 b) = (a != b) := by
  unfold bne; rw [I32_eq]
theorem take_snoc {α : Type} (l : List α) (k : Nat) (h : k < l.length) : l.take (k + 1) = l.take k ++ [l[k]] := by
  rw [List.take_succ_eq_append_getElem h]
theorem I32_lit (a : BitVec 32) (n : Nat) (h : a.toNat = n) : I32 a = (n : Int) := by unfold I32; rw [h]
theorem I8_of_nat (n : Nat) (h : n < 256) : I8 (UInt8.ofNat n) = (n : Int) := by
  unfold I8
  rw [UInt8.toNat_ofNat', Nat.mod_eq_of_lt (by omega)]
def nibInts : List Int := [0, 498536548, 997073096, 651767980, 1994146192, 1802195444, 1303535960, 1342533948, 3988292384, 4027552580, 3604390888, 3412177804, 2607071920, 2262029012, 2685067896, 3183342108]
theorem nib_ints : ∀ i, i < 16 → nibInts.getD i 0 = I32 (P.nib i) := by decide
/-- an int of 32 bits is one of these -/
theorem I32_of_int (z : Int) (h : 0 ≤ z) (h2 : z ≤ 4294967295) : ∃ a : BitVec 32, z = I32 a := by
  refine ⟨BitVec.ofNat 32 z.toNat, ?_⟩
  rw [I32_ofNat _ (by omega)]
  omega
theorem I8_of_int (z : Int) (h : 0 ≤ z) (h2 : z ≤ 255) : ∃ a : UInt8, z = I8 a := by
  refine ⟨UInt8.ofNat z.toNat, ?_⟩
  rw [I8_of_nat _ (by omega)]
  omega
/-- a text of bytes, by their numbers -/
def lb (ns : List Nat) : List UInt8 := ns.map UInt8.ofNat
theorem lb_vals (ns : List Nat) (h : ns.all (· < 256) = true) : (lb ns).map B8 = ns.map fun (n : Nat) => Value.int .u8 (n : Int) := by
  unfold lb
  rw [List.map_map]
  apply List.map_congr_left
  intro n hn
  have := List.all_eq_true.1 h n hn
  have hlt : n < 256 := by simpa using this
  show B8 (UInt8.ofNat n) = _
  unfold B8 I8
  rw [UInt8.toNat_ofNat', Nat.mod_eq_of_lt (by omega)]
attribute [irreducible] I32 I8 low bt sh8
end Go.Proofs.YtlckhfjkdahfpaaDoor

/- Slices as the walk has them: 'Bytes': the slice's address reads as a list of bytes; 'Fr S': of what was there only the blocks of S may have turned. No condition, no program. -/
namespace Go.Proofs.YtlckhfjkdahfpaaDoor
open Go.RowKit

/-- below the old heap's end only the blocks of S may have turned -/
structure Fr (S : List Nat) (w w' : World) : Prop where
  os : w'.os = w.os
  tape : w'.tape = w.tape
  output : w'.output = w.output
  size : w.heap.size ≤ w'.heap.size
  block : ∀ k, k < w.heap.size → k ∉ S → w'.heap[k]? = w.heap[k]?

theorem Fr.refl (S : List Nat) (w : World) : Fr S w w := ⟨rfl, rfl, rfl, Nat.le_refl _, fun _ _ _ => rfl⟩
theorem Fr.trans {S : List Nat} {a b c : World} (h : Fr S a b) (k : Fr S b c) : Fr S a c :=
  ⟨k.os.trans h.os, k.tape.trans h.tape, k.output.trans h.output, Nat.le_trans h.size k.size, fun i hi hn => (k.block i (Nat.lt_of_lt_of_le hi h.size) hn).trans (h.block i hi hn)⟩
/-- new blocks need not be named -/
theorem Fr.mono {S T : List Nat} {a b : World} (h : Fr S a b) (hs : ∀ k, k ∈ S → k < a.heap.size → k ∈ T) : Fr T a b :=
  ⟨h.os, h.tape, h.output, h.size, fun k hk hn => h.block k hk fun hm => hn (hs k hm hk)⟩
theorem Fr.next {S T : List Nat} {a b c : World} (h : Fr S a b) (k : Fr T b c) (hs : ∀ i, i ∈ T → i < a.heap.size → i ∈ S) : Fr S a c :=
  ⟨k.os.trans h.os, k.tape.trans h.tape, k.output.trans h.output, Nat.le_trans h.size k.size, fun i hi hn => (k.block i (Nat.lt_of_lt_of_le hi h.size) fun hm => hn (hs i hm hi)).trans (h.block i hi hn)⟩
theorem Fr.alloc {S : List Nat} {a w : World} (h : Fr S a w) (o : Obj) : Fr S a (w.alloc o) :=
  ⟨h.os, h.tape, h.output, by have := h.size; simp; omega, fun k hk hn => (Below.heap_alloc _ _ _ (Nat.lt_of_lt_of_le hk h.size)).trans (h.block k hk hn)⟩
theorem Fr.setCell {S : List Nat} {a w : World} (h : Fr S a w) {p : Addr} (hp : p.block < a.heap.size → p.block ∈ S) (u : Value) : Fr S a (w.setCell p u) :=
  ⟨h.os, h.tape, h.output, by have := h.size; simp [World.setCell]; omega, fun k hk hn => (Below.heap_setCell _ _ _ _ (fun e => hn (by rw [e]; exact hp (by rw [← e]; exact hk)))).trans (h.block k hk hn)⟩
theorem Fr.setRow {S : List Nat} {a w : World} (h : Fr S a w) {g : Nat} (hp : g < a.heap.size → g ∈ S) (cs : Array Value) : Fr S a (w.setRow g cs) :=
  ⟨h.os, h.tape, h.output, by have := h.size; simp; omega, fun k hk hn => (setRow_other w g k cs (fun e => hn (by rw [e]; exact hp (by rw [← e]; exact hk)))).trans (h.block k hk hn)⟩
theorem Fr.drew {S : List Nat} {a w : World} (h : Fr S a w) : Fr S a w.drew := ⟨h.os, h.tape, h.output, h.size, h.block⟩
theorem Fr.drewN {S : List Nat} {a w : World} (h : Fr S a w) (n : Nat) : Fr S a (w.drewN n) := ⟨h.os, h.tape, h.output, h.size, h.block⟩
theorem Fr.below {a w : World} (h : Fr [] a w) : Below a.heap.size a w := ⟨h.os, h.tape, h.output, h.size, fun k hk => h.block k hk (by simp)⟩
theorem Fr.of_below {B : Nat} {a w : World} (h : Below B a w) (hB : a.heap.size ≤ B) : Fr [] a w := ⟨h.os, h.tape, h.output, h.size, fun k hk _ => h.block k (Nat.lt_of_lt_of_le hk hB)⟩
theorem Fr.of_grown {a w : World} {row : Option Nat} (h : a.grownBy w row) (S : List Nat) (hr : ∀ k, row = some k → k < a.heap.size → k ∈ S) : Fr S a w :=
  ⟨h.os, h.tape, h.output, h.size, fun k hk hn => h.block k hk (fun e => hn (hr k e.symm hk))⟩
theorem Fr.cell {S : List Nat} {w w' : World} (h : Fr S w w') {p : Addr} {v : Value} (hc : w.cell? p = some v) (hn : p.block ∉ S) : w'.cell? p = some v :=
  (World.cell?_of_block (w := w) (h.block p.block (World.block_lt_of_cell? w p hc) hn)).trans hc
theorem Fr.obj {S : List Nat} {w w' : World} (h : Fr S w w') {k : Nat} {o : Obj} (hc : w.heap[k]? = some o) (hn : k ∉ S) : w'.heap[k]? = some o :=
  (h.block k (Array.getElem?_eq_some_iff.1 hc).1 hn).trans hc

/-- the slice at this address reads as these bytes -/
def Bytes (w : World) (a : Option Addr) (l : List UInt8) : Prop :=
  l = [] ∨ ∃ b off, a = some ⟨b, off, none⟩ ∧ ∀ j, j < l.length → w.cell? ⟨b, off + j, none⟩ = some (B8 (l.getD j 0))
/-- .. and lies in none of these blocks -/
def Off (a : Option Addr) (l : List UInt8) (S : List Nat) : Prop := l = [] ∨ ∀ ad, a = some ad → ad.block ∉ S
theorem Bytes.nil (w : World) (a : Option Addr) : Bytes w a [] := Or.inl rfl
theorem Bytes.fr {S : List Nat} {w w' : World} {a : Option Addr} {l : List UInt8} (h : Bytes w a l) (hf : Fr S w w') (ho : Off a l S) : Bytes w' a l := by
  rcases h with rfl | ⟨b, off, rfl, hc⟩
  · exact Or.inl rfl
  · rcases ho with rfl | ho
    · exact Or.inl rfl
    · exact Or.inr ⟨b, off, rfl, fun j hj => hf.cell (hc j hj) (ho ⟨b, off, none⟩ rfl)⟩
theorem Bytes.keep {w w' : World} {a : Option Addr} {l : List UInt8} (h : Bytes w a l) (hf : Fr [] w w') : Bytes w' a l := h.fr hf (Or.inr fun _ _ => by simp)
theorem Bytes.at {w : World} {a : Option Addr} {l : List UInt8} (h : Bytes w a l) (hl : 0 < l.length) : ∃ b off, a = some ⟨b, off, none⟩ ∧ ∀ j, j < l.length → w.cell? ⟨b, off + j, none⟩ = some (B8 (l.getD j 0)) := by
  rcases h with rfl | h
  · simp at hl
  · exact h
/-- what the call owns reads as what it owns -/
theorem Bytes.of_own {w : World} {B e : Nat} {v : Value} {l : List UInt8} (h : w.ownsRow B e 1 v l.length (l.map B8)) : ∃ a cap, v = .slice a l.length cap ∧ Bytes w a l ∧ l.length ≤ cap ∧ cap ≤ maxLen ∧ (a = none → cap = 0) ∧ (∀ ad, a = some ad → B ≤ ad.block ∧ ad.off = 0 ∧ ad.spot = none) := by
  have hx := h.2
  rcases hx with ⟨rfl, hn⟩ | ⟨g, cap, cur, rfl, hg, hh, hn, hm, hs, ht⟩
  · have : l = [] := List.eq_nil_of_length_eq_zero hn
    subst this
    exact ⟨none, 0, rfl, Or.inl rfl, Nat.le_refl _, Nat.zero_le _, fun _ => rfl, fun _ h => by cases h⟩
  · refine ⟨_, cap, rfl, Or.inr ⟨g, 0, rfl, fun j hj => ?_⟩, hn, hm, (fun h => by cases h), fun ad had => by cases had; exact ⟨hg, rfl, rfl⟩⟩
    have hu : (l.map B8)[j]? = some (B8 (l.getD j 0)) := by simp [List.getD, hj]
    have := h.cells (g := g) rfl j _ hu
    rwa [Addr.add_lit] at this
/-- its cells as the laws on append ask for them -/
theorem Bytes.news {w : World} {ad : Addr} {l : List UInt8} (h : Bytes w (some ad) l) : ∀ j u, (l.map B8)[j]? = some u → w.cell? (ad.add j) = some u := by
  intro j u hu
  have hj : j < l.length := by
    have := (List.getElem?_eq_some_iff.1 hu).1
    simpa using this
  obtain ⟨b, off, e, hc⟩ := h.at (by omega)
  cases e
  rw [Addr.add_lit, hc j hj]
  have : (l.map B8)[j]? = some (B8 (l.getD j 0)) := by simp [List.getD, hj]
  rw [this] at hu
  exact hu
theorem B8_one (l : List UInt8) : ∀ u ∈ l.map B8, u.oneCell' = true := by
  intro u hu
  obtain ⟨_, _, rfl⟩ := List.mem_map.1 hu
  rfl
/-- a new block that is written out -/
theorem Bytes.lit {w : World} {g : Nat} {arr : Array Value} {t : Nat} {fr : Nat × Nat} (ns : List Nat) (hg : g = w.heap.size) (h : ns.all (· < 256) = true) (ha : arr = (ns.map fun (n : Nat) => Value.int .u8 (n : Int)).toArray) : Bytes (w.alloc (.cells arr t fr)) (some ⟨g, 0, none⟩) (lb ns) := by
  subst ha
  subst hg
  refine Or.inr ⟨w.heap.size, 0, rfl, fun j hj => ?_⟩
  rw [Nat.zero_add, cell_of_row _ _ j _ t fr (heap_alloc_new w _), ← lb_vals ns h, List.getElem?_toArray]
  simp [List.getD, hj]
/-- append to a slice of the call's own, whatever the source: bytes -/
theorem wpList_appB {P : Program} (w : World) {ops : Array Oper} {rest : List Oper} {o : Oper} {a : Act} {Q : Exit → Act → World → Prop} (hgd : o.guard = none) (s x : Operand) (t : TypeId)
    (ho : o.op = .call { callee := .builtin .append, args := #[s, x], argTypes := #[t, t] })
    (base : Nat) (e : TypeId) (ht : P.underlying t = some (.slice e)) (hinfo : (P.info? e).map (fun i => (i.zero, i.size, i.bytes)) = some (some (.int .u8 0), 1, 1))
    (v : Value) (xs : List UInt8) (hs : a.eval s = v) (hown : w.ownsRow base e 1 v xs.length (xs.map B8))
    (ao : Option Addr) (m c : Nat) (l : List UInt8) (hx : a.eval x = .slice ao m c) (hl : l.length = m) (hb : Bytes w ao l) (hnone : ao = none → c = 0)
    (hroom : xs.length + m ≤ 140737488355328) (hbase : base ≤ w.heap.size)
    (h : ∀ v' w', w'.ownsRow base e 1 v' (xs ++ l).length ((xs ++ l).map B8) → w.grownBy w' v.ownBlock → (v' = .slice none 0 0 ↔ v = .slice none 0 0 ∧ m = 0) → wpList P ops Q rest (a.put o.dst v') w') : wpList P ops Q (o :: rest) a w := by
  obtain ⟨i, hi, hz, hsz, hby⟩ := info_parts hinfo
  cases ao with
  | some ad =>
    refine wpList_append_own w hgd s x t ho base e i (.int .u8 0) 1 1 ht hi hz hsz hby rfl (by decide) v xs.length (xs.map B8) hs hown ad m c (l.map B8) hx (by simp [hl]) hb.news (B8_one l) (by unfold maxLen; omega) (by omega) hbase ?_
    intro v' w' h1 h2 h3
    refine h v' w' ?_ h2 h3
    rw [List.length_append, hl, List.map_append]; exact h1
  | none =>
    have hm : l = [] := by
      rcases hb with h | ⟨_, _, h, _⟩
      · exact h
      · cases h
    subst hm
    have hc := hnone rfl
    subst hc
    subst hl
    refine wpList_append_own_none hgd s x t ho base e i 1 ht hi v xs.length (xs.map B8) hs hown hx ?_
    refine h v w (by simpa using hown) (World.grownBy.refl _ _) ?_
    simp
/-- a slice literal without elements is the call's own -/
theorem own_empty (w : World) (e : TypeId) : (w.alloc (.cells #[] e)).ownsRow w.heap.size e 1 (.slice (some ⟨w.heap.size, 0, none⟩) 0 0) ([] : List UInt8).length (([] : List UInt8).map B8) :=
  World.ownsRow_made w #[] 0 (Nat.le_refl _) (by unfold maxLen; omega) rfl
theorem ret_eq {v v' : Value} (h : v = v') : Ending.returned v = Ending.returned v' := by rw [h]
/-- a part of a list of bytes -/
theorem Bytes.sub {w : World} {b off : Nat} {l : List UInt8} (h : Bytes w (some ⟨b, off, none⟩) l) (p n : Nat) (hp : p + n ≤ l.length) : Bytes w (some ⟨b, off + p, none⟩) ((l.drop p).take n) := by
  rcases Nat.eq_zero_or_pos n with h0 | hpos
  · subst h0; exact Or.inl (by simp)
  · obtain ⟨b', off', e, hc⟩ := h.at (by omega)
    cases e
    refine Or.inr ⟨b, off + p, rfl, fun j hj => ?_⟩
    have hjn : j < n := by simp at hj; omega
    have := hc (p + j) (by omega)
    rw [Nat.add_assoc, this]
    simp [List.getD, hjn]
end Go.Proofs.YtlckhfjkdahfpaaDoor
