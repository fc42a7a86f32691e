/- Record files: is there a byte that isn't nought? -/
import Derived.Test.YtkcipbjikimlfaaRfF
import Derived.Test.YtkcipbjikimlfaaLate
namespace Go.Proofs.Ytkcipbjikimlfaa
open Go.RowKit
attribute [local go_sem ↓] Go.wp_at_zero Go.wp_at_succ
theorem any_not {l : List UInt8} (h : ∀ j, j < l.length → l.getD j 0 = 0) : l.any (· != 0) = false := by
  rw [List.any_eq_false]
  intro x hx
  obtain ⟨j, hj, rfl⟩ := List.mem_iff_getElem.1 hx
  have := h j hj
  rw [List.getD_eq_getElem?_getD, List.getElem?_eq_getElem hj] at this
  simpa using this
theorem any_yes {l : List UInt8} {k : Nat} (hk : k < l.length) (h : (l.getD k 0 != 0) = true) : l.any (· != 0) = true := by
  rw [List.any_eq_true]
  refine ⟨l[k], List.getElem_mem _, ?_⟩
  rwa [List.getD_eq_getElem?_getD, List.getElem?_eq_getElem hk] at h
end Go.Proofs.Ytkcipbjikimlfaa

/- Record files: the head of a file's bytes. -/
namespace Go.Proofs.Ytkcipbjikimlfaa
open Go.RowKit
attribute [local go_sem ↓] Go.wp_at_zero Go.wp_at_succ
/-- the error that a head shows -/
def hdE (b : List UInt8) : Int :=
  if (b.take 4 == magicB) = false then 90
  else if (BitVec.ofNat 32 (hN b 12 4) == sm (b.take 12)) = false then 91
  else if hN b 6 2 < 2 ∨ 255 < hN b 6 2 then 4
  else if 65536 < hN b 8 4 ∨ b.length ≠ 16 + hN b 8 4 * hN b 6 2 then 92
  else 0
theorem hdE_open {b : List UInt8} (h : ¬ b.length < 16) (he : hdE b ≠ 0) : openB b = .error (hdE b) := by
  unfold hdE at he ⊢
  unfold openB
  rw [if_neg h]
  split at he
  · rename_i h1; rw [if_pos h1, if_pos h1]
  rename_i h1
  rw [if_neg h1, if_neg h1]
  split at he
  · rename_i h2; rw [if_pos h2, if_pos h2]
  rename_i h2
  rw [if_neg h2, if_neg h2]
  split at he
  · rename_i h3; rw [if_pos h3, if_pos h3]
  rename_i h3
  rw [if_neg h3, if_neg h3]
  split at he
  · rename_i h4; rw [if_pos h4, if_pos h4]
  · exact absurd rfl he
theorem hdE_ok {b : List UInt8} (h : ¬ b.length < 16) (he : hdE b = 0) : openB b = fileOf (hN b 4 1) (hN b 5 1) (hN b 6 2) (readR (hN b 6 2) (hN b 8 4) (b.drop 16)) ∧ 2 ≤ hN b 6 2 ∧ hN b 6 2 ≤ 255 ∧ hN b 8 4 ≤ 65536 ∧ b.length = 16 + hN b 8 4 * hN b 6 2 := by
  unfold hdE at he
  split at he
  · cases he
  split at he
  · cases he
  split at he
  · cases he
  split at he
  · cases he
  rename_i h1 h2 h3 h4
  refine ⟨?_, by omega, by omega, by omega, by omega⟩
  unfold openB
  rw [if_neg h, if_neg h1, if_neg h2, if_neg h3, if_neg h4]
theorem hN_nm (b : List UInt8) (p n m : Nat) (h : p + n ≤ m) : nm (b.take m) p n = hN b p n := by
  unfold nm hN
  rw [List.drop_take, List.take_take, Nat.min_eq_left (by omega)]
/-- what head gives -/
def HeadG (w w' : World) (e : Ending) (l : List UInt8) : Prop :=
  ∃ p, e = .returned (.tuple #[.pointer (some ⟨p, 0, none⟩), .int .i64 (hN l 8 4 : Nat), .int .i64 (hdE l)]) ∧ w'.heap[p]? = some (.cells #[.int .i64 (hN l 4 1 : Nat), .int .i64 (hN l 5 1 : Nat), .int .i64 (hN l 6 2 : Nat), .slice none 0 0, .int .i64 0, .int .i64 0] 38) ∧ w.heap.size ≤ p ∧ Fr [] w w'
end Go.Proofs.Ytkcipbjikimlfaa

/- Record files: slices.Chunk. -/
namespace Go.Proofs.Ytkcipbjikimlfaa
open Go.RowKit Go.Shelf
attribute [local go_sem] Oper.semAt_some
end Go.Proofs.Ytkcipbjikimlfaa
