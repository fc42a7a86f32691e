/- The walks of the groups of version 2. -/
import Derived.Test.YtbhmfbhfofgfaaaRecW
import Derived.Outline
namespace Go.Proofs.Ytbhmfbhfofgfaaa
open Go.RowKit

structure GroupV where
  live : Bool
  ty : Int
  ow : Int
  out : Int
  inn : Int
  lp : Int
  nx : Int
def gFine (g : GroupV) : Bool := inB g.ty 0 200 && (inB g.ow 0 1024 && (([g.out, g.inn, g.lp].all fun n => inB n (-1) 2048) && inB g.nx (-1) 65536))
/-- a group's bytes -/
def gB (g : GroupV) : List UInt8 := by8 2 g.ty.toNat ++ by8 4 g.ow.toNat ++ ptrs [g.out, g.inn, g.lp, g.nx]
theorem gB_length (g : GroupV) : (gB g).length = 22 := by
  unfold gB; rw [List.length_append, List.length_append, by8_length, by8_length, ptrs_length]; rfl
theorem gFine_bd {g : GroupV} (h : gFine g = true) : (0 ≤ g.ty ∧ g.ty < 200) ∧ (0 ≤ g.ow ∧ g.ow < 1024) ∧ (-1 ≤ g.out ∧ g.out < 2048) ∧ (-1 ≤ g.inn ∧ g.inn < 2048) ∧ (-1 ≤ g.lp ∧ g.lp < 2048) ∧ (-1 ≤ g.nx ∧ g.nx < 65536) := by
  simp only [gFine, Bool.and_eq_true, List.all_cons, List.all_nil, inB_iff] at h
  exact ⟨h.1, h.2.1, h.2.2.1.1, h.2.2.1.2.1, h.2.2.1.2.2.1, h.2.2.2⟩
end Go.Proofs.Ytbhmfbhfofgfaaa

/- The walk of GetGroup. -/
namespace Go.Proofs.Ytbhmfbhfofgfaaa
open Go.RowKit

theorem ptr_cells (w : World) (s b : Nat) (os : List Nat) (T : Nat) (hs : s = w.heap.size) : ∀ k, k < os.length → (w.alloc (.cells ((os.map fun o => Value.pointer (some ⟨b, o, none⟩)).toArray) T)).cell? ⟨s, k, none⟩ = some (.pointer (some ⟨b, os.getD k 0, none⟩)) := by
  intro k hk
  subst hs
  rw [cell_of_row _ _ k _ T _ (heap_alloc_new w _), List.getElem?_toArray]
  simp [List.getD, hk]
theorem wrap_nm (l : List UInt8) (q wd : Nat) (h : wd ≤ 4) : IntKind.i64.wrap (nm l q wd : Int) = (nm l q wd : Int) := by
  have := nm_le l q wd h
  rw [← U_lt _ (show nm l q wd < 18446744073709551616 by omega), U_int _ (by omega), U_lt _ (by omega)]
def gZero : Value := .agg #[.bool false, .int .i64 0, .int .i64 0, .int .i64 0, .int .i64 0, .int .i64 0, .int .i64 0]
def GroupV.val (g : GroupV) : Value := .agg #[.bool g.live, .int .i64 g.ty, .int .i64 g.ow, .int .i64 g.out, .int .i64 g.inn, .int .i64 g.lp, .int .i64 g.nx]
/-- the group that bytes are -/
def gDec (l : List UInt8) : GroupV := ⟨true, nm l 0 2, nm l 2 4, nm l 6 4 - 1, nm l 10 4 - 1, nm l 14 4 - 1, nm l 18 4 - 1⟩
/-- what a reading of 22 bytes gives -/
def gGot (l : List UInt8) : Value := .tuple (if gFine (gDec l) then #[(gDec l).val, .int .i64 0] else #[gZero, .int .i64 41])
theorem gGot_yes {l : List UInt8} (h : gFine (gDec l) = true) : gGot l = .tuple #[(gDec l).val, .int .i64 0] := by unfold gGot; rw [h]; rfl
theorem gGot_no {l : List UInt8} (h : gFine (gDec l) = false) : gGot l = .tuple #[gZero, .int .i64 41] := by unfold gGot; rw [h]; rfl
end Go.Proofs.Ytbhmfbhfofgfaaa

/- The walks of the document's PutGroup and GetGroup. -/
namespace Go.Proofs.Ytbhmfbhfofgfaaa
open Go.RowKit
attribute [local go_sem ↓] Go.wp_at_zero Go.wp_at_succ
theorem Fresh.fr {B : Nat} {w w' : World} {v : Value} {l : List UInt8} (h : Fresh B w w' v l) : Fr [] w w' := by
  obtain ⟨_, _, _, _, _, _, hf⟩ := h
  exact hf
theorem fresh_empty {w0 w : World} {g : Nat} (hg : g = w.heap.size) (hf : Fr [] w0 w) : Fresh w0.heap.size w0 (w.alloc (.cells #[] 5)) (.slice (some ⟨g, 0, none⟩) 0 0) [] := by
  subst hg
  exact ⟨_, _, rfl, hf.size, by simp, own_base (own_empty w _) hf.size, hf.alloc _⟩
theorem refnum_z (wz z : Int) (w : World) (hw : isWd wz = true) (h0 : 0 ≤ z) (h1 : z < 18446744073709551616) :
    Calls Try.prog 45 #[.int .i64 wz, .int .u64 z] w fun e w' => ∃ v, e = .returned v ∧ Fresh w.heap.size w w' v (by8 wz.toNat z.toNat) := by
  obtain ⟨wd, rfl, h⟩ := isWd_of wz hw
  exact refnum_int wd z w h h0 h1
theorem held2 {w0 w w' : World} {p q : Addr} {u v : Value} (h : w.cell? p = some u ∧ w.cell? q = some v ∧ Fr [] w0 w) (hf : Fr [] w w') : w'.cell? p = some u ∧ w'.cell? q = some v ∧ Fr [] w0 w' :=
  ⟨hf.cell h.1 (by simp), hf.cell h.2.1 (by simp), h.2.2.trans hf⟩
theorem held2_start {w : World} {p q : Addr} {u v : Value} (h : w.cell? p = some u) (h2 : w.cell? q = some v) : w.drew.cell? p = some u ∧ w.drew.cell? q = some v ∧ Fr [] w w.drew :=
  ⟨h, h2, (Fr.refl _ _).drew⟩
end Go.Proofs.Ytbhmfbhfofgfaaa

/- The walk of the document's GetGroup. -/
namespace Go.Proofs.Ytbhmfbhfofgfaaa
open Go.RowKit

theorem take_join (l : List UInt8) (q n : Nat) : l.take q ++ (l.drop q).take n = l.take (q + n) := by rw [List.take_add]
theorem ptr_back (n : Nat) : ((n : Int) - 1 + 1).toNat = n := by omega
theorem gB_gDec (l : List UInt8) (h : l.length = 22) : gB (gDec l) = l := by
  unfold gB gDec ptrs
  simp only [List.flatMap_cons, List.flatMap_nil, List.append_nil, ptr_back, Int.toNat_natCast]
  rw [by8_nm l 0 2 (by omega), by8_nm l 2 4 (by omega), by8_nm l 6 4 (by omega), by8_nm l 10 4 (by omega), by8_nm l 14 4 (by omega), by8_nm l 18 4 (by omega)]
  rw [List.drop_zero, ← List.append_assoc, ← List.append_assoc, ← List.append_assoc, take_join, take_join, take_join, take_join, take_join]
  exact List.take_of_length_le (by omega)
end Go.Proofs.Ytbhmfbhfofgfaaa

/- The walks of the relationships of version 2: written. -/
namespace Go.Proofs.Ytbhmfbhfofgfaaa
open Go.RowKit
attribute [local go_sem ↓] Go.wp_at_zero Go.wp_at_succ
structure RelV where
  live : Bool
  fr : Int
  to : Int
  fp : Int
  tp : Int
  fn : Int
  tn : Int
  ty : Int
  ov : Int
  sl : List UInt8
def rFine (r : RelV) : Bool := inB r.fr 0 1024 && (inB r.to 0 1024 && (inB r.ty 0 200 && (([r.fp, r.fn, r.tp, r.tn].all fun n => inB n (-1) 2048) && (inB r.ov (-1) 65536 && decide (r.sl.length = 32)))))
/-- a relationship's bytes -/
def rB (r : RelV) : List UInt8 := by8 4 r.fr.toNat ++ by8 4 r.to.toNat ++ by8 2 r.ty.toNat ++ ptrs [r.fp, r.fn, r.tp, r.tn, r.ov] ++ r.sl
theorem rB_length (r : RelV) : (rB r).length = 30 + r.sl.length := by
  unfold rB; simp only [List.length_append, by8_length, ptrs_length]; simp
theorem rFine_bd {r : RelV} (h : rFine r = true) : (0 ≤ r.fr ∧ r.fr < 1024) ∧ (0 ≤ r.to ∧ r.to < 1024) ∧ (0 ≤ r.ty ∧ r.ty < 200) ∧ (-1 ≤ r.fp ∧ r.fp < 2048) ∧ (-1 ≤ r.fn ∧ r.fn < 2048) ∧ (-1 ≤ r.tp ∧ r.tp < 2048) ∧ (-1 ≤ r.tn ∧ r.tn < 2048) ∧ (-1 ≤ r.ov ∧ r.ov < 65536) ∧ r.sl.length = 32 := by
  simp only [rFine, Bool.and_eq_true, List.all_cons, List.all_nil, inB_iff, decide_eq_true_eq] at h
  exact ⟨h.1, h.2.1, h.2.2.1, h.2.2.2.1.1, h.2.2.2.1.2.1, h.2.2.2.1.2.2.1, h.2.2.2.1.2.2.2.1, h.2.2.2.2.1, h.2.2.2.2.2⟩
theorem len_dec (n k : Nat) : decide (n = k) = ((n : Int) == (k : Int)) := by
  by_cases h : n = k
  · subst h; simp
  · rw [decide_eq_false h, beq_eq_false_iff_ne.2 (by omega)]
end Go.Proofs.Ytbhmfbhfofgfaaa

/- The walk of GetRel of version 2. -/
namespace Go.Proofs.Ytbhmfbhfofgfaaa
open Go.RowKit

def rZero : Value := .agg #[.bool false, .int .i64 0, .int .i64 0, .int .i64 0, .int .i64 0, .int .i64 0, .int .i64 0, .int .i64 0, .int .i64 0, .slice none 0 0]
def RelV.val (r : RelV) (v : Value) : Value := .agg #[.bool r.live, .int .i64 r.fr, .int .i64 r.to, .int .i64 r.fp, .int .i64 r.tp, .int .i64 r.fn, .int .i64 r.tn, .int .i64 r.ty, .int .i64 r.ov, v]
/-- the relationship that bytes are -/
def rDec (l : List UInt8) : RelV := ⟨true, (nm l 0 4 : Int), nm l 4 4, nm l 10 4 - 1, nm l 18 4 - 1, nm l 14 4 - 1, nm l 22 4 - 1, nm l 8 2, nm l 26 4 - 1, (l.drop 30).take 32⟩
/-- what a reading of 62 bytes gives -/
def GotRel (B : Nat) (l : List UInt8) (e : Value) (w' : World) : Prop :=
  if rFine (rDec l) then ∃ v, e = .tuple #[(rDec l).val v, .int .i64 0] ∧ w'.ownsRow B 5 1 v (rDec l).sl.length ((rDec l).sl.map B8) else e = .tuple #[rZero, .int .i64 41]
theorem GotRel.yes {B : Nat} {l : List UInt8} {e : Value} {w' : World} (hf : rFine (rDec l) = true) (v : Value) (h : e = .tuple #[(rDec l).val v, .int .i64 0]) (ho : w'.ownsRow B 5 1 v (rDec l).sl.length ((rDec l).sl.map B8)) : GotRel B l e w' := by
  unfold GotRel; rw [if_pos hf]; exact ⟨v, h, ho⟩
theorem GotRel.no {B : Nat} {l : List UInt8} {e : Value} {w' : World} (hf : rFine (rDec l) = false) (h : e = .tuple #[rZero, .int .i64 41]) : GotRel B l e w' := by
  unfold GotRel; rw [if_neg (by rw [hf]; simp)]; exact h
theorem rDec_sl (l : List UInt8) (h : l.length = 62) : (rDec l).sl.length = 32 := by
  unfold rDec; simp only [List.length_take, List.length_drop]; omega
theorem own_frame {w w' : World} {B B' e : Nat} {v : Value} {l : List UInt8} (h : w.ownsRow B e 1 v l.length (l.map B8)) (hB : B' ≤ B) (hf : Fr [] w w') : w'.ownsRow B' e 1 v l.length (l.map B8) := own_base (own_fr h hf (by simp)) hB
theorem own_setCells {B e b : Nat} {v : Value} {l : List UInt8} (hb : ∀ g, v.ownBlock = some g → g ≠ b) {w : World} (vs : List Value) (o : Nat) (h : w.ownsRow B e 1 v l.length (l.map B8)) : (w.setCells b o vs).ownsRow B e 1 v l.length (l.map B8) :=
  own_fr h (Fr.setCells (S := [b]) (by simp) vs o w (Fr.refl _ _)) (by intro g hg; simp; exact hb g hg)
end Go.Proofs.Ytbhmfbhfofgfaaa
