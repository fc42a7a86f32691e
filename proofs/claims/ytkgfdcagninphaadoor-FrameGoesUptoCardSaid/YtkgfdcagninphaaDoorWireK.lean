/- What a reader's calls do to its state: the walks of wire's Reader and of the document's at once. -/
import Derived.Test.YtkgfdcagninphaaDoorWireJ
namespace Go.Proofs.YtkgfdcagninphaaDoor
open Go.RowKit
attribute [local go_sem] mulU256 wrapU_nat wrapU_I8 wrapU addU mulU remU divU byteU shrU I8_ne I8_eq U_eq U_ne
def rGood (l : List UInt8) (ok : Bool) (q : Nat) (e n : Int) : Prop := e = 0 ∧ ok = true ∧ 0 ≤ n ∧ n ≤ (l.length : Int) - q
instance (l : List UInt8) (ok : Bool) (q : Nat) (e n : Int) : Decidable (rGood l ok q e n) := by unfold rGood; exact inferInstance
def rTake (l : List UInt8) (ok : Bool) (q : Nat) (e n : Int) : List UInt8 := if rGood l ok q e n then (l.drop q).take n.toNat else []
def rAt (l : List UInt8) (ok : Bool) (q : Nat) (e n : Int) : Nat := if rGood l ok q e n then q + n.toNat else q
def rErr (l : List UInt8) (ok : Bool) (q : Nat) (e n : Int) : Int := if e ≠ 0 then e else if ok = false ∨ n < 0 then 2 else if (l.length : Int) - q < n then 10 else 0
theorem r_cases (l : List UInt8) (ok : Bool) (q : Nat) (e n : Int) : e ≠ 0 ∨ (e = 0 ∧ (ok = false ∨ n < 0)) ∨ (e = 0 ∧ ok = true ∧ 0 ≤ n ∧ (l.length : Int) - q < n) ∨ ∃ k : Nat, e = 0 ∧ ok = true ∧ n = k ∧ (k : Int) ≤ (l.length : Int) - q := by
  by_cases he : e = 0
  · by_cases h1 : ok = false ∨ n < 0
    · exact .inr (.inl ⟨he, h1⟩)
    · have ho : ok = true := by cases ok <;> simp_all
      have hn : 0 ≤ n := by omega
      by_cases h2 : (l.length : Int) - q < n
      · exact .inr (.inr (.inl ⟨he, ho, hn, h2⟩))
      · exact .inr (.inr (.inr ⟨n.toNat, he, ho, by omega, by omega⟩))
  · exact .inl he
theorem r_late {l : List UInt8} {ok : Bool} {q : Nat} {e n : Int} (h : e ≠ 0) : rTake l ok q e n = [] ∧ rAt l ok q e n = q ∧ rErr l ok q e n = e := by
  have hg : ¬ rGood l ok q e n := fun g => h g.1
  exact ⟨if_neg hg, if_neg hg, if_pos h⟩
theorem r_arg {l : List UInt8} {ok : Bool} {q : Nat} {n : Int} (h : ok = false ∨ n < 0) : rTake l ok q 0 n = [] ∧ rAt l ok q 0 n = q ∧ rErr l ok q 0 n = 2 := by
  have hg : ¬ rGood l ok q 0 n := fun g => by
    obtain ⟨_, h1, h2, _⟩ := g
    rcases h with h | h
    · rw [h] at h1; cases h1
    · omega
  exact ⟨if_neg hg, if_neg hg, by unfold rErr; rw [if_neg (by simp), if_pos h]⟩
theorem r_short {l : List UInt8} {q : Nat} {n : Int} (h0 : 0 ≤ n) (h : (l.length : Int) - q < n) : rTake l true q 0 n = [] ∧ rAt l true q 0 n = q ∧ rErr l true q 0 n = 10 := by
  have hg : ¬ rGood l true q 0 n := fun g => by
    obtain ⟨_, _, _, h2⟩ := g
    omega
  exact ⟨if_neg hg, if_neg hg, by unfold rErr; rw [if_neg (by simp), if_neg (by simp; omega), if_pos h]⟩
theorem r_yes {l : List UInt8} {q k : Nat} (h : (k : Int) ≤ (l.length : Int) - q) : rTake l true q 0 k = (l.drop q).take k ∧ rAt l true q 0 k = q + k ∧ rErr l true q 0 k = 0 := by
  have hg : rGood l true q 0 k := ⟨rfl, rfl, by omega, h⟩
  exact ⟨if_pos hg, if_pos hg, by unfold rErr; rw [if_neg (by simp), if_neg (by simp), if_neg (by omega)]⟩
theorem rAt_le {l : List UInt8} {ok : Bool} {q : Nat} {e n : Int} (h : q ≤ l.length) : rAt l ok q e n ≤ l.length := by
  unfold rAt
  split
  · rename_i hg
    obtain ⟨_, _, _, _⟩ := hg
    omega
  · exact h
theorem rTake_length (l : List UInt8) (ok : Bool) (q : Nat) (e n : Int) : (rTake l ok q e n).length ≤ l.length := by
  unfold rTake
  split
  · simp; omega
  · simp

/-- the number of a read -/
def rNum (l : List UInt8) (q : Nat) (e z : Int) : Nat := be (rTake l (isWd z) q e z)
/-! the document's -/
end Go.Proofs.YtkgfdcagninphaaDoor
