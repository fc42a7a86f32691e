/- The walk of the document's GetRel of version 2. -/
import Derived.Test.YtbhmfbhfofgfaaaRecK
import Derived.Deep.MidRow
namespace Go.Proofs.Ytbhmfbhfofgfaaa
open Go.RowKit
attribute [local go_sem ↓] Go.wp_at_zero Go.wp_at_succ
theorem seven {w : World} {b T : Nat} {c0 c1 c2 c3 c4 c5 c6 : Value} (h : w.heap[b]? = some (.cells #[c0, c1, c2, c3, c4, c5, c6] T)) :
    w.cell? ⟨b, 0, none⟩ = some c0 ∧ w.cell? ⟨b, 1, none⟩ = some c1 ∧ w.cell? ⟨b, 2, none⟩ = some c2 ∧ w.cell? ⟨b, 3, none⟩ = some c3 ∧ w.cell? ⟨b, 4, none⟩ = some c4 ∧ w.cell? ⟨b, 5, none⟩ = some c5 ∧ w.cell? ⟨b, 6, none⟩ = some c6 :=
  ⟨cell_of_row _ _ 0 _ _ _ h, cell_of_row _ _ 1 _ _ _ h, cell_of_row _ _ 2 _ _ _ h, cell_of_row _ _ 3 _ _ _ h, cell_of_row _ _ 4 _ _ _ h, cell_of_row _ _ 5 _ _ _ h, cell_of_row _ _ 6 _ _ _ h⟩
theorem seven_fr {S : List Nat} {w w' : World} {b : Nat} {c0 c1 c2 c3 c4 c5 c6 : Value} (h : w.cell? ⟨b, 0, none⟩ = some c0 ∧ w.cell? ⟨b, 1, none⟩ = some c1 ∧ w.cell? ⟨b, 2, none⟩ = some c2 ∧ w.cell? ⟨b, 3, none⟩ = some c3 ∧ w.cell? ⟨b, 4, none⟩ = some c4 ∧ w.cell? ⟨b, 5, none⟩ = some c5 ∧ w.cell? ⟨b, 6, none⟩ = some c6) (hf : Fr S w w') (hb : b ∉ S) :
    w'.cell? ⟨b, 0, none⟩ = some c0 ∧ w'.cell? ⟨b, 1, none⟩ = some c1 ∧ w'.cell? ⟨b, 2, none⟩ = some c2 ∧ w'.cell? ⟨b, 3, none⟩ = some c3 ∧ w'.cell? ⟨b, 4, none⟩ = some c4 ∧ w'.cell? ⟨b, 5, none⟩ = some c5 ∧ w'.cell? ⟨b, 6, none⟩ = some c6 :=
  ⟨hf.cell h.1 hb, hf.cell h.2.1 hb, hf.cell h.2.2.1 hb, hf.cell h.2.2.2.1 hb, hf.cell h.2.2.2.2.1 hb, hf.cell h.2.2.2.2.2.1 hb, hf.cell h.2.2.2.2.2.2 hb⟩
theorem seven_set {w : World} {b b' : Nat} {c0 c1 c2 c3 c4 c5 c6 : Value} {cs : List Value} (h : w.cell? ⟨b, 0, none⟩ = some c0 ∧ w.cell? ⟨b, 1, none⟩ = some c1 ∧ w.cell? ⟨b, 2, none⟩ = some c2 ∧ w.cell? ⟨b, 3, none⟩ = some c3 ∧ w.cell? ⟨b, 4, none⟩ = some c4 ∧ w.cell? ⟨b, 5, none⟩ = some c5 ∧ w.cell? ⟨b, 6, none⟩ = some c6) (hb : b ≠ b') :
    (w.setCells b' 0 cs).cell? ⟨b, 0, none⟩ = some c0 ∧ (w.setCells b' 0 cs).cell? ⟨b, 1, none⟩ = some c1 ∧ (w.setCells b' 0 cs).cell? ⟨b, 2, none⟩ = some c2 ∧ (w.setCells b' 0 cs).cell? ⟨b, 3, none⟩ = some c3 ∧ (w.setCells b' 0 cs).cell? ⟨b, 4, none⟩ = some c4 ∧ (w.setCells b' 0 cs).cell? ⟨b, 5, none⟩ = some c5 ∧ (w.setCells b' 0 cs).cell? ⟨b, 6, none⟩ = some c6 :=
  seven_fr h (Fr.setCells (S := [b']) (by simp) cs 0 w (Fr.refl _ _)) (by simp [hb])
def adr : Value → Nat
  | .pointer (some a) => a.block
  | _ => 0
def vcs : Value → List Value
  | .agg cs => cs.toList
  | _ => []
def isAt0 : Value → Bool
  | .pointer (some ⟨_, 0, none⟩) => true
  | _ => false
def isRel : Value → Bool
  | .agg ⟨[.bool _, .int .i64 _, .int .i64 _, .int .i64 _, .int .i64 _, .int .i64 _, .int .i64 _, .int .i64 _, .int .i64 _, .slice _ _ _]⟩ => true
  | _ => false
theorem adr_p (g o : Nat) : adr (.pointer (some ⟨g, o, none⟩)) = g := rfl
theorem vcs_a (cs : List Value) : vcs (.agg ⟨cs⟩) = cs := rfl
theorem isAt0_p (g : Nat) : isAt0 (.pointer (some ⟨g, 0, none⟩)) = true := rfl
theorem isRel_a (b : Bool) (z1 z2 z3 z4 z5 z6 z7 z8 : Int) (a : Option Addr) (n c : Nat) : isRel (.agg #[.bool b, .int .i64 z1, .int .i64 z2, .int .i64 z3, .int .i64 z4, .int .i64 z5, .int .i64 z6, .int .i64 z7, .int .i64 z8, .slice a n c]) = true := rfl
theorem at0_eq {v : Value} (h : isAt0 v = true) : v = .pointer (some ⟨adr v, 0, none⟩) := by
  unfold isAt0 at h
  split at h
  · rfl
  · cases h
theorem rel_eq {v : Value} (h : isRel v = true) : v = .agg (vcs v).toArray ∧ (vcs v).toArray.size = 10 ∧ (vcs v).toArray.all (·.oneCell') = true := by
  unfold isRel at h
  split at h
  · exact ⟨rfl, rfl, by simp [vcs, Value.oneCell']⟩
  · cases h
attribute [local go_sem] adr_p vcs_a isAt0_p isRel_a
theorem rB_rDec (l : List UInt8) (h : l.length = 62) : rB (rDec l) = l := by
  unfold rB rDec ptrs
  simp only [List.flatMap_cons, List.flatMap_nil, List.append_nil, ptr_back, Int.toNat_natCast]
  rw [by8_nm l 0 4 (by omega), by8_nm l 4 4 (by omega), by8_nm l 8 2 (by omega), by8_nm l 10 4 (by omega), by8_nm l 14 4 (by omega), by8_nm l 18 4 (by omega), by8_nm l 22 4 (by omega), by8_nm l 26 4 (by omega)]
  rw [List.drop_zero, ← List.append_assoc, ← List.append_assoc, ← List.append_assoc, ← List.append_assoc, take_join, take_join, take_join, take_join, take_join, take_join, take_join, take_join]
  exact List.take_of_length_le (by omega)
theorem rFine_S {l S : List UInt8} (hS : S = (l.drop 30).take 32) : rFine ⟨true, (nm l 0 4 : Int), nm l 4 4, nm l 10 4 - 1, nm l 18 4 - 1, nm l 14 4 - 1, nm l 22 4 - 1, nm l 8 2, nm l 26 4 - 1, S⟩ = rFine (rDec l) ∧ (rDec l).sl = S ∧ (rB ⟨true, (nm l 0 4 : Int), nm l 4 4, nm l 10 4 - 1, nm l 18 4 - 1, nm l 14 4 - 1, nm l 22 4 - 1, nm l 8 2, nm l 26 4 - 1, S⟩ = rB (rDec l)) := by subst hS; exact ⟨rfl, rfl, rfl⟩
end Go.Proofs.Ytbhmfbhfofgfaaa
