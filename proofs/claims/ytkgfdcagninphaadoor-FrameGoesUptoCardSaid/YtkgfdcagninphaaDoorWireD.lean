/- The walks of the document's Get and Set, and of the laws WireGets and WireSets. -/
import Derived.Test.YtkgfdcagninphaaDoorWireC
namespace Go.Proofs.YtkgfdcagninphaaDoor
open Go.RowKit
attribute [local go_sem] mulU256 wrapU_nat wrapU_I8 wrapU addU mulU remU divU byteU shrU I8_ne I8_eq U_eq U_ne
/-- what both Gets answer -/
def getNum (l : List UInt8) (p z : Int) : Nat := if isWd z = true ∧ 0 ≤ p ∧ p + z ≤ l.length then be ((l.drop p.toNat).take z.toNat) else 0
def getErr (l : List UInt8) (p z : Int) : Int := if isWd z = false ∨ p < 0 then 2 else if (l.length : Int) < p + z then 10 else 0
theorem get_cases (l : List UInt8) (p z : Int) : (isWd z = false ∨ p < 0) ∨ (∃ wd : Nat, z = wd ∧ Wd wd ∧ 0 ≤ p ∧ (l.length : Int) < p + wd) ∨ ∃ wd q : Nat, z = wd ∧ p = q ∧ Wd wd ∧ q + wd ≤ l.length := by
  by_cases h1 : isWd z = false ∨ p < 0
  · exact .inl h1
  · have hz : isWd z = true := by cases hz : isWd z <;> simp_all
    have hp : 0 ≤ p := by omega
    obtain ⟨wd, rfl, hw⟩ := isWd_of z hz
    by_cases h2 : (l.length : Int) < p + wd
    · exact .inr (.inl ⟨wd, rfl, hw, hp, h2⟩)
    · exact .inr (.inr ⟨wd, p.toNat, rfl, by omega, hw, by omega⟩)

end Go.Proofs.YtkgfdcagninphaaDoor
