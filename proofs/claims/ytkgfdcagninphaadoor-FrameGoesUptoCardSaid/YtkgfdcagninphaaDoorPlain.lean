/-
  The plain law of the check sum: the table of sixteen numbers does four steps of the division at once; the document's division, the greatest power first, is the same turned about;
  eight steps at once are a linear map of 32 bits, and Combine is its n-th power. No program in sight.
-/
namespace Go.Proofs.YtkgfdcagninphaaDoor.P

def poly : BitVec 32 := 0xedb88320#32
def dvs : BitVec 32 := 0x04c11db7#32
/-- one step of the check sum -/
def s1 (c : BitVec 32) : BitVec 32 := (c >>> 1) ^^^ (if c.getLsbD 0 then poly else 0#32)
def it {α : Type} (f : α → α) : Nat → α → α
  | 0, x => x
  | n + 1, x => it f n (f x)
theorem it_add {α : Type} (f : α → α) (m n : Nat) (x : α) : it f (m + n) x = it f n (it f m x) := by
  induction m generalizing x with
  | zero => simp [it]
  | succ m ih => rw [Nat.succ_add]; exact ih _
theorem it_succ' {α : Type} (f : α → α) (n : Nat) (x : α) : it f (n + 1) x = f (it f n x) := by
  rw [it_add f n 1 x]; rfl
theorem it_comm {α : Type} (f : α → α) (n : Nat) (x : α) : it f n (f x) = f (it f n x) := it_succ' f n x

theorem s1_xor (a b : BitVec 32) : s1 (a ^^^ b) = s1 a ^^^ s1 b := by
  unfold s1
  rw [BitVec.getLsbD_xor, BitVec.ushiftRight_xor_distrib]
  generalize a >>> 1 = x
  generalize b >>> 1 = y
  generalize poly = p
  cases a.getLsbD 0 <;> cases b.getLsbD 0
  · simp
  · simp [BitVec.xor_assoc]
  · simp only [Bool.xor_false, if_true, if_false, Bool.false_eq_true]
    rw [BitVec.xor_zero, BitVec.xor_assoc, BitVec.xor_assoc, BitVec.xor_comm p y]
  · simp only [Bool.xor_true, Bool.not_true, if_true, if_false, Bool.false_eq_true]
    rw [BitVec.xor_zero, BitVec.xor_assoc x p, ← BitVec.xor_assoc p y p, BitVec.xor_comm p y, BitVec.xor_assoc y p p, BitVec.xor_self, BitVec.xor_zero]
theorem s1_zero : s1 0#32 = 0#32 := by decide
theorem it_xor {f : BitVec 32 → BitVec 32} (h : ∀ a b, f (a ^^^ b) = f a ^^^ f b) (n : Nat) (a b : BitVec 32) : it f n (a ^^^ b) = it f n a ^^^ it f n b := by
  induction n generalizing a b with
  | zero => rfl
  | succ n ih => simp [it, h, ih]
theorem it_zero {f : BitVec 32 → BitVec 32} (h : f 0#32 = 0#32) (n : Nat) : it f n 0#32 = 0#32 := by
  induction n with
  | zero => rfl
  | succ n ih => simp [it, h, ih]
theorem s1_even (c : BitVec 32) (h : c.getLsbD 0 = false) : s1 c = c >>> 1 := by
  unfold s1; rw [h]; simp

def nibs : List (BitVec 32) := [0x00000000, 0x1db71064, 0x3b6e20c8, 0x26d930ac, 0x76dc4190, 0x6b6b51f4, 0x4db26158, 0x5005713c, 0xedb88320, 0xf00f9344, 0xd6d6a3e8, 0xcb61b38c, 0x9b64c2b0, 0x86d3d2d4, 0xa00ae278, 0xbdbdf21c]
def nib (i : Nat) : BitVec 32 := nibs.getD i 0
def st4 (c : BitVec 32) : BitVec 32 := nib (c &&& 15#32).toNat ^^^ (c >>> 4)

theorem low_lt (c : BitVec 32) : (c &&& 15#32).toNat < 16 := by
  rw [BitVec.toNat_and]; exact Nat.lt_of_le_of_lt Nat.and_le_right (by decide)
theorem nib_it : ∀ i, i < 16 → it s1 4 (BitVec.ofNat 32 i) = nib i := by decide
theorem st4_eq (c : BitVec 32) : st4 c = it s1 4 c := by
  have hsplit : c = (c &&& 15#32) ^^^ (c &&& 0xfffffff0#32) := by
    apply BitVec.eq_of_getLsbD_eq
    intro i hi
    rw [BitVec.getLsbD_xor, BitVec.getLsbD_and, BitVec.getLsbD_and]
    have : ∀ i, i < 32 → (15#32).getLsbD i = !(0xfffffff0#32).getLsbD i := by decide
    rw [this i hi]
    cases c.getLsbD i <;> cases (0xfffffff0#32).getLsbD i <;> rfl
  have hlow : it s1 4 (c &&& 15#32) = nib (c &&& 15#32).toNat := by
    have := nib_it _ (low_lt c)
    rwa [BitVec.ofNat_toNat, BitVec.setWidth_eq] at this
  have hhigh : it s1 4 (c &&& 0xfffffff0#32) = c >>> 4 := by
    have key : ∀ k, k < 4 → (0xfffffff0#32).getLsbD k = false := by decide
    have e : ∀ k, k < 4 → s1 ((c &&& 0xfffffff0#32) >>> k) = (c &&& 0xfffffff0#32) >>> (k + 1) := by
      intro k hk
      rw [s1_even _ (by simp [key k hk]), BitVec.shiftRight_add]
    have h0 := e 0 (by omega)
    have h1 := e 1 (by omega)
    have h2 := e 2 (by omega)
    have h3 := e 3 (by omega)
    rw [BitVec.ushiftRight_zero] at h0
    show s1 (s1 (s1 (s1 _))) = _
    rw [h0, h1, h2, h3]
    apply BitVec.eq_of_getLsbD_eq
    intro i hi
    rw [BitVec.getLsbD_ushiftRight, BitVec.getLsbD_ushiftRight, BitVec.getLsbD_and]
    by_cases hh : i < 28
    · have : ∀ j, j < 28 → (0xfffffff0#32).getLsbD (4 + j) = true := by decide
      rw [this i hh, Bool.and_true]
    · rw [BitVec.getLsbD_of_ge c (4 + i) (by omega), Bool.false_and]
  conv => rhs; rw [hsplit]
  rw [it_xor s1_xor, hlow, hhigh]
  rfl

/-- a byte comes in -/
def wide (x : UInt8) : BitVec 32 := x.toBitVec.setWidth 32
def up (c : BitVec 32) (x : UInt8) : BitVec 32 := st4 (st4 (c ^^^ wide x))
theorem up_eq (c : BitVec 32) (x : UInt8) : up c x = it s1 8 (c ^^^ wide x) := by
  unfold up; rw [st4_eq, st4_eq, ← it_add]
def run (c : BitVec 32) (l : List UInt8) : BitVec 32 := l.foldl up c
def update (sum : BitVec 32) (l : List UInt8) : BitVec 32 := ~~~ (run (~~~ sum) l)

theorem run_append (c : BitVec 32) (l r : List UInt8) : run c (l ++ r) = run (run c l) r := by simp [run]
theorem update_append (c : BitVec 32) (l r : List UInt8) : update c (l ++ r) = update (update c l) r := by
  simp [update, run_append]

/-! the document's division -/
def mulX (p : BitVec 32) : BitVec 32 := (p <<< 1) ^^^ (if p.getLsbD 31 then dvs else 0#32)
def rv (p : BitVec 32) : BitVec 32 := p.reverse
theorem rv_get (p : BitVec 32) (i : Nat) (h : i < 32) : (rv p).getLsbD i = p.getLsbD (31 - i) := by
  unfold rv
  rw [BitVec.getLsbD_reverse, BitVec.getMsbD]
  simp [h]
theorem rv_rv (p : BitVec 32) : rv (rv p) = p := by
  apply BitVec.eq_of_getLsbD_eq
  intro i hi
  rw [rv_get _ _ hi, rv_get _ _ (by omega)]
  congr 1
  omega
theorem rv_xor (a b : BitVec 32) : rv (a ^^^ b) = rv a ^^^ rv b := by
  apply BitVec.eq_of_getLsbD_eq
  intro i hi
  rw [BitVec.getLsbD_xor, rv_get _ _ hi, rv_get _ _ hi, rv_get _ _ hi, BitVec.getLsbD_xor]
theorem rv_zero : rv 0#32 = 0#32 := by decide +kernel
theorem rv_dvs : rv dvs = poly := by decide +kernel
theorem rv_mulX (p : BitVec 32) : rv (mulX p) = s1 (rv p) := by
  have hs : rv (p <<< 1) = rv p >>> 1 := by
    apply BitVec.eq_of_getLsbD_eq
    intro i hi
    rw [rv_get _ _ hi, BitVec.getLsbD_ushiftRight, BitVec.getLsbD_shiftLeft]
    by_cases h : i < 31
    · rw [rv_get _ _ (by omega), show 31 - (1 + i) = 31 - i - 1 by omega]
      simp [show 31 - i < 32 by omega, show ¬ (31 - i < 1) by omega]
    · have : i = 31 := by omega
      subst this
      rw [BitVec.getLsbD_of_ge (rv p) (1 + 31) (by omega)]
      simp
  unfold mulX s1
  rw [rv_xor, hs, rv_get p 0 (by omega)]
  cases p.getLsbD 31 <;> simp [rv_zero, rv_dvs]

/-- one bit comes in at the top -/
def bitOf (x : UInt8) (k : Nat) : Bool := x.toBitVec.getLsbD k
def divBit (r : BitVec 32) (b : Bool) : BitVec 32 := (r <<< 1) ^^^ (if r.getLsbD 31 != b then dvs else 0#32)
def divByte : Nat → BitVec 32 → UInt8 → BitVec 32
  | 0, r, _ => r
  | k + 1, r, x => divBit (divByte k r x) (bitOf x k)
def divRun (r : BitVec 32) (l : List UInt8) : BitVec 32 := l.foldl (divByte 8) r

def one (b : Bool) : BitVec 32 := if b then 1#32 else 0#32
theorem rv_divBit (r : BitVec 32) (b : Bool) : rv (divBit r b) = s1 (rv r ^^^ one b) := by
  have h1 : divBit r b = mulX r ^^^ (if b then dvs else 0#32) := by
    unfold divBit mulX
    cases r.getLsbD 31 <;> cases b <;> simp [BitVec.xor_assoc]
  rw [h1, rv_xor, rv_mulX, s1_xor]
  cases b
  · simp [one, rv_zero, s1_zero]
  · have : s1 (one true) = poly := by decide
    rw [this]; simp [rv_dvs]

theorem shr_get (a : BitVec 32) (k j : Nat) : (a >>> k).getLsbD j = a.getLsbD (k + j) := by simp
/-- the bits of x below k have come in, those above stand waiting -/
theorem rv_divByte (r : BitVec 32) (x : UInt8) : ∀ k, k ≤ 8 → rv (divByte k r x) ^^^ (wide x >>> k) = it s1 k (rv r ^^^ wide x)
  | 0, _ => by simp [divByte, it]
  | k + 1, h => by
    have ih := rv_divByte r x k (by omega)
    rw [it_succ', ← ih]
    show rv (divBit (divByte k r x) (bitOf x k)) ^^^ _ = _
    rw [rv_divBit]
    have e : wide x >>> k = one (bitOf x k) ^^^ ((wide x >>> (k + 1)) <<< 1) := by
      apply BitVec.eq_of_getLsbD_eq
      intro i hi
      rw [BitVec.getLsbD_xor, shr_get, BitVec.getLsbD_shiftLeft, shr_get]
      have hb : (wide x).getLsbD k = bitOf x k := by simp [wide, bitOf]; omega
      rcases Nat.eq_zero_or_pos i with rfl | hp
      · simp only [Nat.add_zero, hb]
        cases bitOf x k <;> simp [one]
      · have h0 : (one (bitOf x k)).getLsbD i = false := by
          cases bitOf x k
          · simp [one]
          · show (1#32).getLsbD i = false
            rw [BitVec.getLsbD_one]; simp; omega
        rw [h0, show k + 1 + (i - 1) = k + i by omega]
        simp [hi, show ¬ i < 1 by omega]
    rw [e, ← BitVec.xor_assoc, s1_xor (rv (divByte k r x) ^^^ one (bitOf x k))]
    congr 1
    rw [s1_even _ (by simp)]
    apply BitVec.eq_of_getLsbD_eq
    intro i hi
    rw [shr_get, shr_get, BitVec.getLsbD_shiftLeft, shr_get]
    by_cases hh : 1 + i < 32
    · rw [show k + 1 + (1 + i - 1) = k + 1 + i by omega]
      simp [hh]
    · rw [BitVec.getLsbD_of_ge _ (k + 1 + i) (by omega)]
      simp [hh]
theorem rv_divByte8 (r : BitVec 32) (x : UInt8) : rv (divByte 8 r x) = up (rv r) x := by
  have h := rv_divByte r x 8 (by omega)
  have hz : wide x >>> 8 = 0#32 := by
    apply BitVec.eq_of_getLsbD_eq
    intro i hi
    rw [shr_get]
    simp [wide]
  rw [up_eq, ← h, hz, BitVec.xor_zero]
theorem rv_divRun (r : BitVec 32) (l : List UInt8) : rv (divRun r l) = run (rv r) l := by
  induction l generalizing r with
  | nil => rfl
  | cons x l ih =>
    show rv (divRun (divByte 8 r x) l) = run (up (rv r) x) l
    rw [ih, rv_divByte8]
theorem xor_ones (c : BitVec 32) : c ^^^ 0xffffffff#32 = ~~~ c := by
  exact (show (0xffffffff#32) = BitVec.allOnes 32 from rfl) ▸ BitVec.xor_allOnes
theorem ref_update (sum : BitVec 32) (l : List UInt8) : rv (divRun (rv (sum ^^^ 0xffffffff#32)) l) ^^^ 0xffffffff#32 = update sum l := by
  rw [rv_divRun, rv_rv, xor_ones, xor_ones]; rfl

/-! the order of the bits turned about, by a loop -/
theorem turn_step (v : BitVec 32) (i : Nat) (hi : i < 32) :
    ((rv v >>> (32 - i)) <<< 1) ||| ((v >>> i) &&& 1#32) = rv v >>> (32 - (i + 1)) := by
  apply BitVec.eq_of_getLsbD_eq
  intro j hj
  rw [BitVec.getLsbD_or, BitVec.getLsbD_shiftLeft, shr_get, BitVec.getLsbD_and, shr_get, shr_get]
  rcases Nat.eq_zero_or_pos j with rfl | hp
  · simp
    rw [rv_get _ _ (by omega)]
    congr 1
    omega
  · have h1 : (1#32).getLsbD j = false := by simp; omega
    simp only [h1, Bool.and_false, Bool.or_false]
    simp [hj, show ¬ j < 1 by omega]
    congr 1
    omega

/-! linear maps of 32 bits -/
def unit (k : Nat) : BitVec 32 := 1#32 <<< k
def lin (m : Nat → BitVec 32) (v : BitVec 32) : Nat → BitVec 32
  | 0 => 0#32
  | k + 1 => lin m v k ^^^ (if v.getLsbD k then m k else 0#32)
structure Lin (f : BitVec 32 → BitVec 32) : Prop where
  zero : f 0#32 = 0#32
  xor : ∀ a b, f (a ^^^ b) = f a ^^^ f b
theorem Lin.it {f : BitVec 32 → BitVec 32} (h : Lin f) (n : Nat) : Lin (it f n) := ⟨it_zero h.zero n, it_xor h.xor n⟩
theorem lin_s1 : Lin s1 := ⟨s1_zero, s1_xor⟩
theorem lin_units (v : BitVec 32) : ∀ k i, (lin unit v k).getLsbD i = (decide (i < k) && v.getLsbD i)
  | 0, i => by simp [lin]
  | k + 1, i => by
    simp only [lin, BitVec.getLsbD_xor, lin_units v k i]
    by_cases hi : i = k
    · subst hi
      cases hv : v.getLsbD i
      · simp
      · have : i < 32 := by
          rcases Nat.lt_or_ge i 32 with h | h
          · exact h
          · rw [BitVec.getLsbD_of_ge _ _ h] at hv; cases hv
        simp [unit, this]
    · have : (if v.getLsbD k then unit k else 0#32).getLsbD i = false := by
        cases v.getLsbD k
        · simp
        · simp only [if_true, unit, BitVec.getLsbD_shiftLeft]
          by_cases h : i < k
          · simp [h]
          · simp [h]; omega
      rw [this]
      by_cases h : i < k
      · simp [h, show i < k + 1 by omega]
      · simp [h, show ¬ i < k + 1 by omega]
theorem lin_unit (v : BitVec 32) : lin unit v 32 = v := by
  apply BitVec.eq_of_getLsbD_eq
  intro i hi
  rw [lin_units]; simp [hi]
theorem lin_map {f : BitVec 32 → BitVec 32} (h : Lin f) (m : Nat → BitVec 32) (v : BitVec 32) : ∀ k, lin (fun i => f (m i)) v k = f (lin m v k)
  | 0 => h.zero.symm
  | k + 1 => by
    simp only [lin, lin_map h m v k, h.xor]
    cases v.getLsbD k <;> simp [h.zero]
theorem lin_of {f : BitVec 32 → BitVec 32} (h : Lin f) (v : BitVec 32) : lin (fun i => f (unit i)) v 32 = f v := by
  rw [lin_map h unit v 32, lin_unit]
theorem lin_congr {m m' : Nat → BitVec 32} (v : BitVec 32) : ∀ k, (∀ i, i < k → m i = m' i) → lin m v k = lin m' v k
  | 0, _ => rfl
  | k + 1, h => by simp only [lin, lin_congr v k (fun i hi => h i (by omega)), h k (by omega)]
theorem lin_stop (m : Nat → BitVec 32) (v : BitVec 32) (i : Nat) (h : v >>> i = 0#32) : ∀ k, lin m v (i + k) = lin m v i
  | 0 => rfl
  | k + 1 => by
    show lin m v (i + k) ^^^ _ = _
    rw [lin_stop m v i h k]
    have : v.getLsbD (i + k) = false := by rw [← shr_get, h]; simp
    simp [this]
theorem lin_done (m : Nat → BitVec 32) (v : BitVec 32) (i : Nat) (hi : i ≤ 32) (h : v >>> i = 0#32) : lin m v i = lin m v 32 := by
  have := lin_stop m v i h (32 - i)
  rw [show i + (32 - i) = 32 by omega] at this
  exact this.symm

/-- Combine: 8n steps -/
def combine (a b : BitVec 32) (n : Nat) : BitVec 32 := it s1 (8 * n) a ^^^ b
/-- the matrix that Combine begins with is one step's -/
def m0 (i : Nat) : BitVec 32 := if i = 0 then poly else unit (i - 1)
theorem m0_eq : ∀ i, i < 32 → m0 i = s1 (unit i) := by decide
/-- a matrix of f squared is one of f twice -/
theorem square_eq {f : BitVec 32 → BitVec 32} (h : Lin f) (m : Nat → BitVec 32) (hm : ∀ i, i < 32 → m i = f (unit i)) (i : Nat) (hi : i < 32) : lin m (m i) 32 = f (f (unit i)) := by
  rw [lin_congr _ 32 hm, lin_of h, hm i hi]
theorem it_two (n : Nat) (x : BitVec 32) : it s1 n (it s1 n x) = it s1 (2 * n) x := by
  rw [← it_add]; congr 1; omega

/-! the product of two polynomials -/
def prodStep (p q out : BitVec 32) (i : Nat) : BitVec 32 := mulX out ^^^ (if p.getLsbD i then q else 0#32)
/-- from bit 31 down to bit i -/
def prodTo (p q : BitVec 32) : Nat → BitVec 32
  | 0 => 0#32
  | k + 1 => prodStep p q (prodTo p q k) (31 - k)
def product (p q : BitVec 32) : BitVec 32 := prodTo p q 32
theorem mulX_xor (a b : BitVec 32) : mulX (a ^^^ b) = mulX a ^^^ mulX b := by
  have h : rv (mulX (a ^^^ b)) = rv (mulX a ^^^ mulX b) := by rw [rv_mulX, rv_xor, rv_xor, rv_mulX, rv_mulX, s1_xor]
  have := congrArg rv h
  rwa [rv_rv, rv_rv] at this
theorem mulX_zero : mulX 0#32 = 0#32 := by decide
theorem lin_mulX : Lin mulX := ⟨mulX_zero, mulX_xor⟩
theorem prodTo_map {f : BitVec 32 → BitVec 32} (h : Lin f) (hc : ∀ x, f (mulX x) = mulX (f x)) (p q : BitVec 32) : ∀ k, prodTo p (f q) k = f (prodTo p q k)
  | 0 => h.zero.symm
  | k + 1 => by
    simp only [prodTo, prodStep, prodTo_map h hc p q k, h.xor, hc]
    cases p.getLsbD (31 - k) <;> simp [h.zero]
theorem prodTo_one (p : BitVec 32) : ∀ k, k ≤ 32 → prodTo p 1#32 k = p >>> (32 - k)
  | 0, _ => by
    apply BitVec.eq_of_getLsbD_eq
    intro i hi
    rw [shr_get]
    simp [prodTo]
  | k + 1, h => by
    simp only [prodTo, prodStep, prodTo_one p k (by omega)]
    have ht : (p >>> (32 - k)).getLsbD 31 = false := by
      rw [shr_get]; exact BitVec.getLsbD_of_ge _ _ (by omega)
    unfold mulX
    rw [ht]
    apply BitVec.eq_of_getLsbD_eq
    intro i hi
    have e : 32 - (k + 1) = 31 - k := by omega
    simp only [BitVec.getLsbD_xor, BitVec.getLsbD_shiftLeft, shr_get, e]
    rcases Nat.eq_zero_or_pos i with rfl | hp
    · cases p.getLsbD (31 - k) <;> simp
    · have h1 : (if p.getLsbD (31 - k) then (1#32) else 0#32).getLsbD i = false := by
        cases p.getLsbD (31 - k)
        · simp
        · simp; omega
      rw [h1]
      simp [hi, show ¬ i < 1 by omega]
      congr 1
      omega
theorem product_pow (p : BitVec 32) (n : Nat) : product p (it mulX n 1#32) = it mulX n p := by
  have hc : ∀ x, it mulX n (mulX x) = mulX (it mulX n x) := fun x => it_comm mulX n x
  have h := prodTo_map (lin_mulX.it n) hc p 1#32 32
  unfold product
  rw [h, prodTo_one p 32 (by omega)]
  simp
theorem rv_it (p : BitVec 32) : ∀ n, rv (it mulX n p) = it s1 n (rv p)
  | 0 => rfl
  | n + 1 => by rw [it_succ', it_succ', rv_mulX, rv_it p n]
theorem pow8 : it mulX 8 1#32 = 256#32 := by decide
theorem it_mul_two (n : Nat) (x : BitVec 32) : it mulX n (it mulX n x) = it mulX (2 * n) x := by
  rw [← it_add]; congr 1; omega
theorem product_sq (n : Nat) : product (it mulX n 1#32) (it mulX n 1#32) = it mulX (2 * n) 1#32 := by
  rw [product_pow, it_mul_two]

/-! the sums of two texts; turned bytes -/
theorem run_xor : ∀ (l : List UInt8) (a b : BitVec 32), run (a ^^^ b) l = run a l ^^^ it s1 (8 * l.length) b
  | [], a, b => by simp [run, it]
  | x :: l, a, b => by
    show run (up (a ^^^ b) x) l = run (up a x) l ^^^ _
    have e : up (a ^^^ b) x = up a x ^^^ it s1 8 b := by
      rw [up_eq, up_eq, ← it_xor s1_xor]
      congr 1
      rw [BitVec.xor_assoc, BitVec.xor_comm b, ← BitVec.xor_assoc]
    rw [e, run_xor l, ← it_add]
    congr 2
    simp; omega
theorem update_split (x y : List UInt8) : update (update 0#32 x) y = combine (update 0#32 x) (update 0#32 y) y.length := by
  unfold combine
  generalize update 0#32 x = s
  unfold update
  have h : ~~~ s = ~~~ (0#32) ^^^ s := by
    rw [BitVec.xor_comm]; exact (by rw [show ~~~ (0#32) = 0xffffffff#32 from rfl, xor_ones])
  rw [h, run_xor]
  rw [BitVec.not_xor_left, BitVec.xor_comm]

/-! three texts of one length; what is turned within four bytes -/
theorem wide_xor (x y : UInt8) : wide (x ^^^ y) = wide x ^^^ wide y := by
  unfold wide
  apply BitVec.eq_of_getLsbD_eq
  intro i hi
  simp [UInt8.toBitVec_xor, hi]
theorem up_xor (a b : BitVec 32) (x y : UInt8) : up (a ^^^ b) (x ^^^ y) = up a x ^^^ up b y := by
  rw [up_eq, up_eq, up_eq, ← it_xor s1_xor, wide_xor]
  congr 1
  rw [BitVec.xor_assoc, BitVec.xor_assoc, ← BitVec.xor_assoc b, BitVec.xor_comm b (wide x), BitVec.xor_assoc]
def zx (l r : List UInt8) : List UInt8 := List.zipWith (fun x y => x ^^^ y) l r
theorem run_zx : ∀ (l r : List UInt8) (a b : BitVec 32), l.length = r.length → run (a ^^^ b) (zx l r) = run a l ^^^ run b r
  | [], [], a, b, _ => rfl
  | x :: l, y :: r, a, b, h => by
    show run (up (a ^^^ b) (x ^^^ y)) (zx l r) = run (up a x) l ^^^ run (up b y) r
    rw [up_xor, run_zx l r _ _ (by simpa using h)]
  | [], _ :: _, _, _, h => by simp at h
  | _ :: _, [], _, _, h => by simp at h
theorem not_xor3 (a b c : BitVec 32) : ~~~ (a ^^^ (b ^^^ c)) = ~~~ a ^^^ ~~~ b ^^^ ~~~ c := by
  apply BitVec.eq_of_getLsbD_eq
  intro i hi
  simp only [BitVec.getLsbD_not, BitVec.getLsbD_xor, hi, decide_true, Bool.true_and]
  cases a.getLsbD i <;> cases b.getLsbD i <;> cases c.getLsbD i <;> rfl
theorem update_three (a b c : List UInt8) (h1 : a.length = b.length) (h2 : a.length = c.length) :
    update 0#32 (zx a (zx b c)) = update 0#32 a ^^^ update 0#32 b ^^^ update 0#32 c := by
  unfold update
  have e : ~~~ (0#32) = ~~~ (0#32) ^^^ (~~~ (0#32) ^^^ ~~~ (0#32)) := by simp
  have hl : (zx b c).length = a.length := by unfold zx; rw [List.length_zipWith]; omega
  rw [← not_xor3, ← run_zx b c _ _ (by omega), ← run_zx a _ _ _ (by omega), ← e]
/-- a step loses nothing -/
theorem s1_ker (c : BitVec 32) (h : s1 c = 0#32) : c = 0#32 := by
  unfold s1 at h
  cases h0 : c.getLsbD 0
  · rw [h0] at h
    simp only [if_false, Bool.false_eq_true, BitVec.xor_zero] at h
    apply BitVec.eq_of_getLsbD_eq
    intro i hi
    rcases Nat.eq_zero_or_pos i with rfl | hp
    · rw [h0]; simp
    · have := congrArg (fun x => x.getLsbD (i - 1)) h
      simp only [BitVec.getLsbD_ushiftRight] at this
      rw [show 1 + (i - 1) = i by omega] at this
      rw [this]; simp
  · rw [h0] at h
    have := congrArg (fun x => x.getLsbD 31) h
    rw [if_pos rfl] at this
    simp only [BitVec.getLsbD_xor, BitVec.getLsbD_ushiftRight] at this
    rw [BitVec.getLsbD_of_ge c (1 + 31) (by omega)] at this
    have hp : poly.getLsbD 31 = true := by decide
    rw [hp] at this
    simp at this
theorem it_ker (n : Nat) (c : BitVec 32) (h : it s1 n c = 0#32) : c = 0#32 := by
  induction n generalizing c with
  | zero => exact h
  | succ n ih => exact s1_ker c (ih _ h)
/-- so many bytes in one number, the first one lowest -/
def pk : List UInt8 → BitVec 32
  | [] => 0#32
  | x :: l => wide x ^^^ (pk l <<< 8)
theorem pk_high : ∀ (l : List UInt8) (i : Nat), 8 * l.length ≤ i → (pk l).getLsbD i = false
  | [], _, _ => by simp [pk]
  | x :: l, i, h => by
    have hx : (wide x).getLsbD i = false := by
      unfold wide
      rw [BitVec.getLsbD_setWidth]
      have : x.toBitVec.getLsbD i = false := BitVec.getLsbD_of_ge _ _ (by simp at h; omega)
      rw [this]; simp
    show (wide x ^^^ (pk l <<< 8)).getLsbD i = false
    rw [BitVec.getLsbD_xor, hx, BitVec.getLsbD_shiftLeft]
    have h2 := pk_high l (i - 8) (by simp at h; omega)
    rw [h2]; simp
/-- eight steps take a shift of eight back -/
theorem it_shl (y : BitVec 32) (h : ∀ i, 24 ≤ i → y.getLsbD i = false) : it s1 8 (y <<< 8) = y := by
  have e : ∀ k, k ≤ 8 → it s1 k (y <<< 8) = y <<< (8 - k) := by
    intro k
    induction k with
    | zero => intro _; rfl
    | succ k ih =>
      intro hk
      rw [it_succ', ih (by omega), s1_even _ (by rw [BitVec.getLsbD_shiftLeft]; simp; omega)]
      apply BitVec.eq_of_getLsbD_eq
      intro i hi
      rw [BitVec.getLsbD_ushiftRight, BitVec.getLsbD_shiftLeft, BitVec.getLsbD_shiftLeft]
      by_cases h31 : 1 + i < 32
      · rw [show 1 + i - (8 - k) = i - (8 - (k + 1)) by omega]
        have : decide (1 + i < 8 - k) = decide (i < 8 - (k + 1)) := by simp; omega
        rw [this]; simp [h31, hi]
      · have : i = 31 := by omega
        subst this
        have hh := h (31 - (7 - k)) (by omega)
        simp [hh]
  have := e 8 (by omega)
  rwa [show 8 - 8 = 0 from rfl, BitVec.shiftLeft_zero] at this
theorem run_pk : ∀ (l : List UInt8) (c : BitVec 32), l.length ≤ 4 → run c l = it s1 (8 * l.length) (c ^^^ pk l)
  | [], c, _ => by simp [run, pk, it]
  | x :: l, c, h => by
    have hl : l.length ≤ 3 := by simpa using h
    show run (up c x) l = it s1 (8 * (l.length + 1)) (c ^^^ (wide x ^^^ (pk l <<< 8)))
    rw [run_pk l _ (by omega), show 8 * (l.length + 1) = 8 + 8 * l.length by omega, it_add]
    congr 1
    rw [← BitVec.xor_assoc, it_xor s1_xor, it_shl _ fun i hi => pk_high l i (by omega), up_eq]
theorem pk_zero : ∀ (l : List UInt8), l.length ≤ 4 → pk l = 0#32 → l.all (· == 0) = true
  | [], _, _ => rfl
  | x :: l, hl, h => by
    have hsh : ∀ i, i < 32 → ((wide x).getLsbD i ^^ (pk l <<< 8).getLsbD i) = false := by
      intro i hi
      have := congrArg (fun z => z.getLsbD i) h
      simpa [pk] using this
    have hx : x = 0 := by
      apply UInt8.toBitVec_inj.1
      apply BitVec.eq_of_getLsbD_eq
      intro i hi
      have h1 := hsh i (by omega)
      rw [BitVec.getLsbD_shiftLeft] at h1
      have h2 : (wide x).getLsbD i = x.toBitVec.getLsbD i := by unfold wide; rw [BitVec.getLsbD_setWidth]; simp; omega
      have h3 : (decide (i < 32) && !decide (i < 8) && (pk l).getLsbD (i - 8)) = false := by simp [show i < 8 from hi]
      rw [h2, h3, Bool.xor_false] at h1
      rw [h1]; simp
    have hp : pk l = 0#32 := by
      apply BitVec.eq_of_getLsbD_eq
      intro i hi
      by_cases h24 : i < 24
      · have h1 := hsh (i + 8) (by omega)
        have h2 : (wide x).getLsbD (i + 8) = false := by
          unfold wide; rw [BitVec.getLsbD_setWidth, BitVec.getLsbD_of_ge x.toBitVec (i + 8) (by omega)]; simp
        rw [h2, BitVec.getLsbD_shiftLeft] at h1
        simp [show i + 8 < 32 by omega] at h1
        simp [h1]
      · rw [pk_high l i (by simp at hl; omega)]; simp
    simp [hx, pk_zero l (by simp at hl; omega) hp]
theorem run_zero : ∀ (l : List UInt8), l.all (· == 0) = true → run 0#32 l = 0#32
  | [], _ => rfl
  | x :: l, h => by
    simp only [List.all_cons, Bool.and_eq_true, beq_iff_eq] at h
    show run (up 0#32 x) l = 0#32
    rw [h.1, show up 0#32 0 = 0#32 by decide]
    exact run_zero l h.2
theorem run_same (m t : List UInt8) (c : BitVec 32) (h : m.length = t.length) : run c (zx m t) = run c m ^^^ run 0#32 t := by
  have := run_zx m t c 0#32 h
  rwa [BitVec.xor_zero] at this
/-- the sums part just where something is turned -/
theorem update_burst (pre mid post t : List UInt8) (h : mid.length = t.length) (h4 : t.length ≤ 4) :
    (update 0#32 (pre ++ (zx mid t ++ post)) == update 0#32 (pre ++ (mid ++ post))) = t.all (· == 0) := by
  unfold update
  rw [run_append, run_append, run_append, run_append]
  generalize run (~~~ (0#32)) pre = c
  rw [run_same mid t c h, run_xor]
  cases ht : t.all (· == 0)
  · apply beq_eq_false_iff_ne.2
    intro e
    have e2 := congrArg (fun z => ~~~ z) e
    simp only [BitVec.not_not] at e2
    have e3 : it s1 (8 * post.length) (run 0#32 t) = 0#32 := by
      have := congrArg (fun z => run (run c mid) post ^^^ z) e2
      simpa [← BitVec.xor_assoc] using this
    have e4 := it_ker _ _ e3
    rw [run_pk t _ h4, BitVec.zero_xor] at e4
    rw [pk_zero t h4 (it_ker _ _ e4)] at ht
    cases ht
  · rw [run_zero t ht, it_zero s1_zero, BitVec.xor_zero]
    exact beq_self_eq_true _
end Go.Proofs.YtkgfdcagninphaaDoor.P
