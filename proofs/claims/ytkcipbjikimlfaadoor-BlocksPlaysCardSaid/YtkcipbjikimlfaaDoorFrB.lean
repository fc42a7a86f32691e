/- Frames: the walks of Pack, the program's and the document's. -/
import Derived.Test.YtkcipbjikimlfaaDoorRfP
import Derived.Test.YtkcipbjikimlfaaDoorCrcA
import Derived.Test.YtkcipbjikimlfaaDoorRecW
import Derived.Deep.RegionHeld3
import Derived.Deep.RegionLaw
import Derived.Deep.CutRange
import Derived.Deep.DeepCutAuto
namespace Go.Proofs.YtkcipbjikimlfaaDoor
open Go.RowKit
attribute [local go_sem ↓] Go.wp_at_zero Go.wp_at_succ
theorem nib_keep {w w' : World} (h : Nib w) (hf : Fr [] w w') : Nib w' := fun i hi => hf.cell (h i hi) (by simp)
theorem nib_fr {S : List Nat} {w w' : World} (h : Nib w) (hf : Fr S w w') (hS : 0 ∉ S) : Nib w' := fun i hi => hf.cell (h i hi) hS
theorem wrapU_I32 (s : BitVec 32) : IntKind.u64.wrap (I32 s) = I32 s := wrapU_int _ (I32_lo s) (by have := I32_hi s; omega)
theorem I32_nat (s : BitVec 32) : (I32 s).toNat = s.toNat := by unfold I32; omega
theorem I32_toNat (s : BitVec 32) : by8 4 (I32 s).toNat = by8 4 s.toNat := by rw [I32_nat]
theorem by8_1 (n : Nat) : by8 1 n = [UInt8.ofNat n] := by simp [by8]
/-- the error's number of a frame that is packed -/
def errP (z : Int) (d : List UInt8) : Int := if z < 0 ∨ 255 < z then 2 else if 1048576 < d.length then 1 else 0
theorem errP_arg {z : Int} {d : List UInt8} (h : z < 0 ∨ 255 < z) : errP z d = 2 := if_pos h
theorem errP_long {z : Int} {d : List UInt8} (h : ¬ (z < 0 ∨ 255 < z)) (h2 : 1048576 < d.length) : errP z d = 1 := by unfold errP; rw [if_neg h, if_pos h2]
theorem errP_ok {z : Int} {d : List UInt8} (h : ¬ (z < 0 ∨ 255 < z)) (h2 : ¬ 1048576 < d.length) : errP z d = 0 := by unfold errP; rw [if_neg h, if_neg h2]
theorem errP_0 {z : Int} {d : List UInt8} (h : errP z d = 0) : (0 ≤ z ∧ z ≤ 255) ∧ d.length ≤ 1048576 := by
  unfold errP at h
  split at h
  · cases h
  split at h
  · cases h
  omega
/-- the bytes of a frame (none where it is refused) -/
def fL (z : Int) (d : List UInt8) : List UInt8 := if errP z d = 0 then fB (UInt8.ofNat z.toNat) d else []
theorem fL_ok {z : Int} {d : List UInt8} (h : errP z d = 0) : fL z d = fB (UInt8.ofNat z.toNat) d := if_pos h
theorem fL_no {z : Int} {d : List UInt8} (h : errP z d ≠ 0) : fL z d = [] := if_neg h
theorem fL_length (z : Int) (d : List UInt8) : (fL z d).length ≤ 1048585 := by
  by_cases h : errP z d = 0
  · rw [fL_ok h, fB_length]; have := errP_0 h; omega
  · rw [fL_no h]; simp
/-- what Pack gives: memory of the call's own -/
def PackG (w w' : World) (e : Ending) (z : Int) (d : List UInt8) : Prop :=
  ∃ a c, e = .returned (.tuple #[.slice a (fL z d).length c, .int .i64 (errP z d)]) ∧ w'.ownsRow w.heap.size 5 1 (.slice a (fL z d).length c) (fL z d).length ((fL z d).map B8) ∧ Fr [] w w'
theorem PackG.no {w w' : World} {z : Int} {d : List UInt8} {n : Int} (h : errP z d = n) (h0 : n ≠ 0) (hf : Fr [] w w') : PackG w w' (.returned (.tuple #[.slice none 0 0, .int .i64 n])) z d := by
  subst h
  refine ⟨none, 0, ?_, ?_, hf⟩
  · rw [fL_no h0]; rfl
  · rw [fL_no h0]; exact World.ownsRow_nil _ _ _ _
theorem PackG.yes {w w' : World} {z : Int} {d : List UInt8} {v : Value} (h : errP z d = 0) (hf : Fresh w.heap.size w w' v (fB (UInt8.ofNat z.toNat) d)) : PackG w w' (.returned (.tuple #[v, .int .i64 0])) z d := by
  obtain ⟨g, cap, rfl, _, _, ho, hfr⟩ := hf
  refine ⟨some ⟨g, 0, none⟩, cap, ?_, ?_, hfr⟩
  · rw [fL_ok h, h]
  · rw [fL_ok h]; exact ho
theorem duo {w : World} {b T : Nat} {c0 c1 : Value} (h : w.heap[b]? = some (.cells #[c0, c1] T)) : w.cell? ⟨b, 0, none⟩ = some c0 ∧ w.cell? ⟨b, 1, none⟩ = some c1 :=
  ⟨cell_of_row _ _ 0 _ _ _ h, cell_of_row _ _ 1 _ _ _ h⟩
end Go.Proofs.YtkcipbjikimlfaaDoor
