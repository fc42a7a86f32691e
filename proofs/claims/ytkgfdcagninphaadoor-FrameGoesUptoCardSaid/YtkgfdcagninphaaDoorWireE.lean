/- The walks of the laws WireGets and WireSets. -/
import Derived.Test.YtkgfdcagninphaaDoorWireD
namespace Go.Proofs.YtkgfdcagninphaaDoor
open Go.RowKit
attribute [local go_sem] mulU256 wrapU_nat wrapU_I8 wrapU addU mulU remU divU byteU shrU I8_ne I8_eq U_eq U_ne
theorem getNum_no {l : List UInt8} {p z : Int} (h : isWd z = false ∨ p < 0) : getNum l p z = 0 := by
  unfold getNum
  rw [if_neg]
  rintro ⟨h1, h2, _⟩
  rcases h with h | h
  · rw [h] at h1; cases h1
  · omega
theorem getErr_no {l : List UInt8} {p z : Int} (h : isWd z = false ∨ p < 0) : getErr l p z = 2 := by unfold getErr; rw [if_pos h]
theorem getNum_short {l : List UInt8} {p z : Int} (h : (l.length : Int) < p + z) : getNum l p z = 0 := by
  unfold getNum
  rw [if_neg]
  rintro ⟨_, _, h3⟩
  omega
theorem getErr_short {l : List UInt8} {p : Int} {wd : Nat} (hw : Wd wd) (hp : 0 ≤ p) (h : (l.length : Int) < p + wd) : getErr l p wd = 10 := by
  unfold getErr
  rw [if_neg (by rw [isWd_nat wd hw]; simp; omega), if_pos h]
theorem getNum_yes {l : List UInt8} {wd p : Nat} (hw : Wd wd) (h : p + wd ≤ l.length) : getNum l p wd = be ((l.drop p).take wd) := by
  unfold getNum
  rw [if_pos ⟨isWd_nat wd hw, by omega, by omega⟩]
  rfl
theorem getErr_yes {l : List UInt8} {wd p : Nat} (hw : Wd wd) (h : p + wd ≤ l.length) : getErr l p wd = 0 := by
  unfold getErr
  rw [if_neg (by rw [isWd_nat wd hw]; simp), if_neg (by omega)]
theorem get_any (a : Option Addr) (c : Nat) (l : List UInt8) (p z : Int) (w : World) (hl : l.length ≤ 140737488351300) (hc : l.length ≤ c) (hb : Bytes w a l) (hp2 : p ≤ 9223372036854775807) :
    Calls Tryd.prog 44 #[.slice a l.length c, .int .i64 p, .int .i64 z] w fun e w' => e = .returned (.tuple #[.int .u64 (U (getNum l p z)), .int .i64 (getErr l p z)]) ∧ w = w' := by
  rcases get_cases l p z with h | ⟨wd, rfl, hw, hp, h⟩ | ⟨wd, q, rfl, rfl, hw, h⟩
  · rw [getNum_no h, getErr_no h]
    exact get_no a c _ p z w h
  · rw [getNum_short h, getErr_short hw hp h]
    exact get_short a c _ wd p w hl hw hp hp2 h
  · rw [getNum_yes hw h, getErr_yes hw h]
    exact get_yes a c l wd q w hl hc hb hw h
/-- what both Sets answer -/
def setBytes (l : List UInt8) (p z : Int) (n : Nat) : List UInt8 := if getErr l p z = 0 then put l p.toNat (by8 z.toNat n) else []
theorem setBytes_ne {l : List UInt8} {p z : Int} {n : Nat} (h : getErr l p z ≠ 0) : setBytes l p z n = [] := if_neg h
theorem setBytes_yes {l : List UInt8} {wd p n : Nat} (hw : Wd wd) (h : p + wd ≤ l.length) : setBytes l p wd n = put l p (by8 wd n) := by
  unfold setBytes
  rw [if_pos (getErr_yes hw h)]
  rfl
theorem be23 : U (be (((lb [1, 2, 3]).drop 1).take 2)) = 515 := by rw [U_lt _ (by decide +kernel)]; decide +kernel
theorem put9 : put (lb [1, 2, 3]) 0 (by8 1 9) = lb [9, 2, 3] := by decide +kernel
theorem lb3 (a b c : Nat) : (lb [a, b, c]).length = 3 := rfl
end Go.Proofs.YtkgfdcagninphaaDoor
