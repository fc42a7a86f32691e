/- The walks of numbers put and read in the records' layers. -/
import Derived.Test.YtkgfdcagninphaaDoorRecA
namespace Go.Proofs.YtkgfdcagninphaaDoor
open Go.RowKit

/-- a number that stands in bytes -/
def nm (l : List UInt8) (q wd : Nat) : Nat := be ((l.drop q).take wd)
theorem nm_def (l : List UInt8) (q wd : Nat) : nm l q wd = be ((l.drop q).take wd) := rfl
theorem nm_le (l : List UInt8) (q wd : Nat) (h : wd ≤ 4) : nm l q wd ≤ 4294967295 := by
  have h1 := be_lt ((l.drop q).take wd)
  have h2 : 256 ^ ((l.drop q).take wd).length ≤ 256 ^ 4 := Nat.pow_le_pow_right (by omega) (by rw [List.length_take]; omega)
  have h3 : (256 : Nat) ^ 4 = 4294967296 := by simp
  unfold nm
  omega
theorem nm_le1 (l : List UInt8) (q : Nat) : nm l q 1 ≤ 255 := by
  have h1 := be_lt ((l.drop q).take 1)
  have h2 : 256 ^ ((l.drop q).take 1).length ≤ 256 ^ 1 := Nat.pow_le_pow_right (by omega) (by rw [List.length_take]; omega)
  unfold nm
  omega
attribute [irreducible] nm
theorem by8_nm (l : List UInt8) (q wd : Nat) (h : q + wd ≤ l.length) : by8 wd (nm l q wd) = (l.drop q).take wd := by
  have := by8_be ((l.drop q).take wd)
  rwa [show ((l.drop q).take wd).length = wd by rw [List.length_take, List.length_drop]; omega, ← nm_def] at this
theorem nm_at (a b r : List UInt8) (n wd : Nat) (hb : b = by8 wd n) (h : n < 256 ^ wd) : nm (a ++ (b ++ r)) a.length wd = n := by
  subst hb
  rw [nm_def, List.drop_left, List.take_append_of_le_length (by rw [by8_length]; omega), List.take_of_length_le (by rw [by8_length]; omega), be_by8, Nat.mod_eq_of_lt h]
theorem wrapU_int (z : Int) (h : 0 ≤ z) (h2 : z < 18446744073709551616) : IntKind.u64.wrap z = z := by
  rw [wrap64u]; omega
theorem U_int' (z : Int) (h : 0 ≤ z) (h2 : z < 18446744073709551616) : U z.toNat = z := by
  rw [U_lt _ (by omega)]; omega

theorem Num_int (B p : Nat) (v : Value) (l : List UInt8) (wd : Nat) (z : Int) (w : World) (ho : w.heap[p]? = some (.cells #[v] 77)) (hown : w.ownsRow B 5 1 v l.length (l.map B8)) (hne : v.ownBlock ≠ some p) (hB : B ≤ w.heap.size)
    (hw : Wd wd) (h0 : 0 ≤ z) (h1 : z < 18446744073709551616) (hroom : l.length ≤ 140737488351300) :
    Calls Tryd.prog 28 #[.pointer (some ⟨p, 0, none⟩), .int .i64 wd, .int .u64 z] w fun e w' => e = .returned (.tuple #[]) ∧ ∃ v', Puts B w w' p v v' (l ++ by8 wd z.toNat) := by
  have := Num_yes B p v l wd z.toNat w ho hown hne hB hw (by omega) (by omega)
  rwa [U_int' z h0 h1] at this
theorem refnum_int (wd : Nat) (z : Int) (w : World) (hw : Wd wd) (h0 : 0 ≤ z) (h1 : z < 18446744073709551616) :
    Calls Tryd.prog 32 #[.int .i64 wd, .int .u64 z] w fun e w' => ∃ v, e = .returned v ∧ Fresh w.heap.size w w' v (by8 wd z.toNat) := by
  have := refnum_yes wd z.toNat w hw (by omega)
  rwa [U_int' z h0 h1] at this
/-- the bytes of pointers -/
def ptrs (l : List Int) : List UInt8 := l.flatMap fun n => by8 4 (n + 1).toNat
theorem ptrs_length (l : List Int) : (ptrs l).length = 4 * l.length := by
  induction l with
  | nil => rfl
  | cons x l ih =>
    unfold ptrs at ih ⊢
    rw [List.flatMap_cons, List.length_append, ih, by8_length, List.length_cons]; omega
theorem ptrs_snoc (l : List Int) (x : Int) : ptrs (l ++ [x]) = ptrs l ++ by8 4 (x + 1).toNat := by
  unfold ptrs; rw [List.flatMap_append]; simp
/-- what 'get' lays into a struct's cells -/
def fills (l : List UInt8) (q : Nat) (cs : List Value) (os : List Nat) : Nat → List Value
  | 0 => cs
  | k + 1 => (fills l q cs os k).set (os.getD k 0) (.int .i64 ((nm l (q + 4 * k) 4 : Int) - 1))
theorem fills_length (l : List UInt8) (q : Nat) (cs : List Value) (os : List Nat) (k : Nat) : (fills l q cs os k).length = cs.length := by
  induction k with
  | zero => rfl
  | succ k ih => rw [fills, List.length_set, ih]
end Go.Proofs.YtkgfdcagninphaaDoor
