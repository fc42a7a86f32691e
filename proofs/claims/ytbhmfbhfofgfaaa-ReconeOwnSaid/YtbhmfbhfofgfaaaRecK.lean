/- The walks of the groups of version 2. -/
import Derived.Test.YtbhmfbhfofgfaaaRecW
import Derived.Outline
namespace Go.Proofs.Ytbhmfbhfofgfaaa
open Go.RowKit

structure GroupV where
  live : Bool
  ty : Int
  ow : Int
  out : Int
  inn : Int
  lp : Int
  nx : Int
def gFine (g : GroupV) : Bool := inB g.ty 0 200 && (inB g.ow 0 1024 && (([g.out, g.inn, g.lp].all fun n => inB n (-1) 2048) && inB g.nx (-1) 65536))
/-- a group's bytes -/
def gB (g : GroupV) : List UInt8 := by8 2 g.ty.toNat ++ by8 4 g.ow.toNat ++ ptrs [g.out, g.inn, g.lp, g.nx]
theorem gB_length (g : GroupV) : (gB g).length = 22 := by
  unfold gB; rw [List.length_append, List.length_append, by8_length, by8_length, ptrs_length]; rfl
theorem gFine_bd {g : GroupV} (h : gFine g = true) : (0 ≤ g.ty ∧ g.ty < 200) ∧ (0 ≤ g.ow ∧ g.ow < 1024) ∧ (-1 ≤ g.out ∧ g.out < 2048) ∧ (-1 ≤ g.inn ∧ g.inn < 2048) ∧ (-1 ≤ g.lp ∧ g.lp < 2048) ∧ (-1 ≤ g.nx ∧ g.nx < 65536) := by
  simp only [gFine, Bool.and_eq_true, List.all_cons, List.all_nil, inB_iff] at h
  exact ⟨h.1, h.2.1, h.2.2.1.1, h.2.2.1.2.1, h.2.2.1.2.2.1, h.2.2.2⟩
end Go.Proofs.Ytbhmfbhfofgfaaa

/- The walk of GetGroup. -/
namespace Go.Proofs.Ytbhmfbhfofgfaaa
open Go.RowKit

theorem ptr_cells (w : World) (s b : Nat) (os : List Nat) (T : Nat) (hs : s = w.heap.size) : ∀ k, k < os.length → (w.alloc (.cells ((os.map fun o => Value.pointer (some ⟨b, o, none⟩)).toArray) T)).cell? ⟨s, k, none⟩ = some (.pointer (some ⟨b, os.getD k 0, none⟩)) := by
  intro k hk
  subst hs
  rw [cell_of_row _ _ k _ T _ (heap_alloc_new w _), List.getElem?_toArray]
  simp [List.getD, hk]
theorem wrap_nm (l : List UInt8) (q wd : Nat) (h : wd ≤ 4) : IntKind.i64.wrap (nm l q wd : Int) = (nm l q wd : Int) := by
  have := nm_le l q wd h
  rw [← U_lt _ (show nm l q wd < 18446744073709551616 by omega), U_int _ (by omega), U_lt _ (by omega)]
def gZero : Value := .agg #[.bool false, .int .i64 0, .int .i64 0, .int .i64 0, .int .i64 0, .int .i64 0, .int .i64 0]
def GroupV.val (g : GroupV) : Value := .agg #[.bool g.live, .int .i64 g.ty, .int .i64 g.ow, .int .i64 g.out, .int .i64 g.inn, .int .i64 g.lp, .int .i64 g.nx]
/-- the group that bytes are -/
def gDec (l : List UInt8) : GroupV := ⟨true, nm l 0 2, nm l 2 4, nm l 6 4 - 1, nm l 10 4 - 1, nm l 14 4 - 1, nm l 18 4 - 1⟩
/-- what a reading of 22 bytes gives -/
def gGot (l : List UInt8) : Value := .tuple (if gFine (gDec l) then #[(gDec l).val, .int .i64 0] else #[gZero, .int .i64 41])
theorem gGot_yes {l : List UInt8} (h : gFine (gDec l) = true) : gGot l = .tuple #[(gDec l).val, .int .i64 0] := by unfold gGot; rw [h]; rfl
theorem gGot_no {l : List UInt8} (h : gFine (gDec l) = false) : gGot l = .tuple #[gZero, .int .i64 41] := by unfold gGot; rw [h]; rfl
end Go.Proofs.Ytbhmfbhfofgfaaa

/- The walks of the document's PutGroup and GetGroup. -/
namespace Go.Proofs.Ytbhmfbhfofgfaaa
open Go.RowKit
attribute [local go_sem ↓] Go.wp_at_zero Go.wp_at_succ
theorem Fresh.fr {B : Nat} {w w' : World} {v : Value} {l : List UInt8} (h : Fresh B w w' v l) : Fr [] w w' := by
  obtain ⟨_, _, _, _, _, _, hf⟩ := h
  exact hf
theorem fresh_empty {w0 w : World} {g : Nat} (hg : g = w.heap.size) (hf : Fr [] w0 w) : Fresh w0.heap.size w0 (w.alloc (.cells #[] 5)) (.slice (some ⟨g, 0, none⟩) 0 0) [] := by
  subst hg
  exact ⟨_, _, rfl, hf.size, by simp, own_base (own_empty w _) hf.size, hf.alloc _⟩
theorem refnum_z (wz z : Int) (w : World) (hw : isWd wz = true) (h0 : 0 ≤ z) (h1 : z < 18446744073709551616) :
    Calls Try.prog 45 #[.int .i64 wz, .int .u64 z] w fun e w' => ∃ v, e = .returned v ∧ Fresh w.heap.size w w' v (by8 wz.toNat z.toNat) := by
  obtain ⟨wd, rfl, h⟩ := isWd_of wz hw
  exact refnum_int wd z w h h0 h1
theorem held2 {w0 w w' : World} {p q : Addr} {u v : Value} (h : w.cell? p = some u ∧ w.cell? q = some v ∧ Fr [] w0 w) (hf : Fr [] w w') : w'.cell? p = some u ∧ w'.cell? q = some v ∧ Fr [] w0 w' :=
  ⟨hf.cell h.1 (by simp), hf.cell h.2.1 (by simp), h.2.2.trans hf⟩
theorem held2_start {w : World} {p q : Addr} {u v : Value} (h : w.cell? p = some u) (h2 : w.cell? q = some v) : w.drew.cell? p = some u ∧ w.drew.cell? q = some v ∧ Fr [] w w.drew :=
  ⟨h, h2, (Fr.refl _ _).drew⟩
end Go.Proofs.Ytbhmfbhfofgfaaa

/- The walk of the document's GetGroup. -/
namespace Go.Proofs.Ytbhmfbhfofgfaaa
open Go.RowKit

theorem take_join (l : List UInt8) (q n : Nat) : l.take q ++ (l.drop q).take n = l.take (q + n) := by rw [List.take_add]
theorem ptr_back (n : Nat) : ((n : Int) - 1 + 1).toNat = n := by omega
theorem gB_gDec (l : List UInt8) (h : l.length = 22) : gB (gDec l) = l := by
  unfold gB gDec ptrs
  simp only [List.flatMap_cons, List.flatMap_nil, List.append_nil, ptr_back, Int.toNat_natCast]
  rw [by8_nm l 0 2 (by omega), by8_nm l 2 4 (by omega), by8_nm l 6 4 (by omega), by8_nm l 10 4 (by omega), by8_nm l 14 4 (by omega), by8_nm l 18 4 (by omega)]
  rw [List.drop_zero, ← List.append_assoc, ← List.append_assoc, ← List.append_assoc, take_join, take_join, take_join, take_join, take_join]
  exact List.take_of_length_le (by omega)
end Go.Proofs.Ytbhmfbhfofgfaaa

/- The walks of the relationships of version 2: written. -/
namespace Go.Proofs.Ytbhmfbhfofgfaaa
open Go.RowKit
attribute [local go_sem ↓] Go.wp_at_zero Go.wp_at_succ
structure RelV where
  live : Bool
  fr : Int
  to : Int
  fp : Int
  tp : Int
  fn : Int
  tn : Int
  ty : Int
  ov : Int
  sl : List UInt8
def rFine (r : RelV) : Bool := inB r.fr 0 1024 && (inB r.to 0 1024 && (inB r.ty 0 200 && (([r.fp, r.fn, r.tp, r.tn].all fun n => inB n (-1) 2048) && (inB r.ov (-1) 65536 && decide (r.sl.length = 32)))))
/-- a relationship's bytes -/
def rB (r : RelV) : List UInt8 := by8 4 r.fr.toNat ++ by8 4 r.to.toNat ++ by8 2 r.ty.toNat ++ ptrs [r.fp, r.fn, r.tp, r.tn, r.ov] ++ r.sl
theorem rB_length (r : RelV) : (rB r).length = 30 + r.sl.length := by
  unfold rB; simp only [List.length_append, by8_length, ptrs_length]; simp
theorem rFine_bd {r : RelV} (h : rFine r = true) : (0 ≤ r.fr ∧ r.fr < 1024) ∧ (0 ≤ r.to ∧ r.to < 1024) ∧ (0 ≤ r.ty ∧ r.ty < 200) ∧ (-1 ≤ r.fp ∧ r.fp < 2048) ∧ (-1 ≤ r.fn ∧ r.fn < 2048) ∧ (-1 ≤ r.tp ∧ r.tp < 2048) ∧ (-1 ≤ r.tn ∧ r.tn < 2048) ∧ (-1 ≤ r.ov ∧ r.ov < 65536) ∧ r.sl.length = 32 := by
  simp only [rFine, Bool.and_eq_true, List.all_cons, List.all_nil, inB_iff, decide_eq_true_eq] at h
  exact ⟨h.1, h.2.1, h.2.2.1, h.2.2.2.1.1, h.2.2.2.1.2.1, h.2.2.2.1.2.2.1, h.2.2.2.1.2.2.2.1, h.2.2.2.2.1, h.2.2.2.2.2⟩
theorem len_dec (n k : Nat) : decide (n = k) = ((n : Int) == (k : Int)) := by
  by_cases h : n = k
  · subst h; simp
  · rw [decide_eq_false h, beq_eq_false_iff_ne.2 (by omega)]
end Go.Proofs.Ytbhmfbhfofgfaaa

/- The walk of GetRel of version 2. -/
namespace Go.Proofs.Ytbhmfbhfofgfaaa
open Go.RowKit

def rZero : Value := .agg #[.bool false, .int .i64 0, .int .i64 0, .int .i64 0, .int .i64 0, .int .i64 0, .int .i64 0, .int .i64 0, .int .i64 0, .slice none 0 0]
def RelV.val (r : RelV) (v : Value) : Value := .agg #[.bool r.live, .int .i64 r.fr, .int .i64 r.to, .int .i64 r.fp, .int .i64 r.tp, .int .i64 r.fn, .int .i64 r.tn, .int .i64 r.ty, .int .i64 r.ov, v]
/-- the relationship that bytes are -/
def rDec (l : List UInt8) : RelV := ⟨true, (nm l 0 4 : Int), nm l 4 4, nm l 10 4 - 1, nm l 18 4 - 1, nm l 14 4 - 1, nm l 22 4 - 1, nm l 8 2, nm l 26 4 - 1, (l.drop 30).take 32⟩
/-- what a reading of 62 bytes gives -/
def GotRel (B : Nat) (l : List UInt8) (e : Value) (w' : World) : Prop :=
  if rFine (rDec l) then ∃ v, e = .tuple #[(rDec l).val v, .int .i64 0] ∧ w'.ownsRow B 5 1 v (rDec l).sl.length ((rDec l).sl.map B8) else e = .tuple #[rZero, .int .i64 41]
theorem GotRel.yes {B : Nat} {l : List UInt8} {e : Value} {w' : World} (hf : rFine (rDec l) = true) (v : Value) (h : e = .tuple #[(rDec l).val v, .int .i64 0]) (ho : w'.ownsRow B 5 1 v (rDec l).sl.length ((rDec l).sl.map B8)) : GotRel B l e w' := by
  unfold GotRel; rw [if_pos hf]; exact ⟨v, h, ho⟩
theorem GotRel.no {B : Nat} {l : List UInt8} {e : Value} {w' : World} (hf : rFine (rDec l) = false) (h : e = .tuple #[rZero, .int .i64 41]) : GotRel B l e w' := by
  unfold GotRel; rw [if_neg (by rw [hf]; simp)]; exact h
theorem rDec_sl (l : List UInt8) (h : l.length = 62) : (rDec l).sl.length = 32 := by
  unfold rDec; simp only [List.length_take, List.length_drop]; omega
theorem own_frame {w w' : World} {B B' e : Nat} {v : Value} {l : List UInt8} (h : w.ownsRow B e 1 v l.length (l.map B8)) (hB : B' ≤ B) (hf : Fr [] w w') : w'.ownsRow B' e 1 v l.length (l.map B8) := own_base (own_fr h hf (by simp)) hB
theorem own_setCells {B e b : Nat} {v : Value} {l : List UInt8} (hb : ∀ g, v.ownBlock = some g → g ≠ b) {w : World} (vs : List Value) (o : Nat) (h : w.ownsRow B e 1 v l.length (l.map B8)) : (w.setCells b o vs).ownsRow B e 1 v l.length (l.map B8) :=
  own_fr h (Fr.setCells (S := [b]) (by simp) vs o w (Fr.refl _ _)) (by intro g hg; simp; exact hb g hg)
end Go.Proofs.Ytbhmfbhfofgfaaa

/- The walks of the document's links and relationships of version 2. -/
namespace Go.Proofs.Ytbhmfbhfofgfaaa
open Go.RowKit
attribute [local go_sem ↓] Go.wp_at_zero Go.wp_at_succ
def lFine (fr to fp fn tp tn : Int) : Bool := inB fr 0 1024 && (inB to 0 1024 && (inB fp (-1) 2048 && (inB fn (-1) 2048 && (inB tp (-1) 2048 && inB tn (-1) 2048))))
set_option maxHeartbeats 800000 in
theorem LinkRight_any (live : Bool) (fr to fp tp fn tn : Int) (w : World) :
    Calls Try.prog 28 #[.agg #[.bool live, .int .i64 fr, .int .i64 to, .int .i64 fp, .int .i64 tp, .int .i64 fn, .int .i64 tn]] w fun e w' => e = .returned (.bool (lFine fr to fp fn tp tn)) ∧ Fr [] w w' := by
  go_enter Try.func28, Try.ntmps28
  go_wp2_with (go_at_call 29; refine (In_any _ _ _ _).mono ?_; rintro e w1 ⟨rfl, rfl⟩)
  all_goals
    go_ret
    refine ⟨ret_bool ?_, ?_⟩
    · simp [lFine, *]
    · exact (Fr.refl _ _).alloc _
/-- a link's bytes -/
def lB (fr to fp fn tp tn ty : Int) : List UInt8 := by8 4 fr.toNat ++ by8 4 to.toNat ++ by8 2 ty.toNat ++ ptrs [fp, fn, tp, tn]
theorem lB_length (fr to fp fn tp tn ty : Int) : (lB fr to fp fn tp tn ty).length = 26 := by
  unfold lB; simp only [List.length_append, by8_length, ptrs_length]; simp
set_option maxHeartbeats 1600000 in
theorem LinkBytes_any (live : Bool) (fr to fp tp fn tn ty : Int) (w : World) (a : 0 ≤ fr ∧ fr ≤ 1000000) (b : 0 ≤ to ∧ to ≤ 1000000) (c : 0 ≤ ty ∧ ty ≤ 1000000) (d : -1 ≤ fp ∧ fp ≤ 1000000) (e0 : -1 ≤ fn ∧ fn ≤ 1000000) (f : -1 ≤ tp ∧ tp ≤ 1000000) (g : -1 ≤ tn ∧ tn ≤ 1000000) :
    Calls Try.prog 31 #[.agg #[.bool live, .int .i64 fr, .int .i64 to, .int .i64 fp, .int .i64 tp, .int .i64 fn, .int .i64 tn], .int .i64 ty] w fun e w' => ∃ v, e = .returned v ∧ Fresh w.heap.size w w' v (lB fr to fp fn tp tn ty) := by
  obtain ⟨a1, a2⟩ := a
  obtain ⟨b1, b2⟩ := b
  obtain ⟨c1, c2⟩ := c
  obtain ⟨d1, d2⟩ := d
  obtain ⟨e1, e2⟩ := e0
  obtain ⟨f1, f2⟩ := f
  obtain ⟨g1, g2⟩ := g
  go_enter Try.func31, Try.ntmps31
  go_wp2_with fail
  obtain ⟨wa, hwa⟩ : ∃ wa, wa = w.alloc (.cells #[.bool live, .int .i64 fr, .int .i64 to, .int .i64 fp, .int .i64 tp, .int .i64 fn, .int .i64 tn] 23) := ⟨_, rfl⟩
  rw [← hwa]
  have hfa : Fr [] w wa := by rw [hwa]; exact (Fr.refl _ _).alloc _
  have hba : wa.heap[w.heap.size]? = some (.cells #[.bool live, .int .i64 fr, .int .i64 to, .int .i64 fp, .int .i64 tp, .int .i64 fn, .int .i64 tn] 23) := by rw [hwa]; exact heap_alloc_new w _
  clear hwa
  have HBA := Lib.hid hba
  have HFA := Lib.hid hfa
  have x1 := cell_of_row wa _ 1 _ _ _ hba
  have x2 := cell_of_row wa _ 2 _ _ _ hba
  clear hba hfa
  have q1 : IntKind.u64.wrap fr = fr := wrapU_int _ (by omega) (by omega)
  have q2 : IntKind.u64.wrap to = to := wrapU_int _ (by omega) (by omega)
  have T4 := Lib.hid (show isWd 4 = true from rfl)
  have u1 : fr < 18446744073709551616 := by omega
  have u2 : to < 18446744073709551616 := by omega
  go_region_held3 (fun w' => w'.cell? ⟨w.heap.size, 1, none⟩ = some (.int .i64 fr) ∧ w'.cell? ⟨w.heap.size, 2, none⟩ = some (.int .i64 to) ∧ Fr [] wa w')
    (first
      | exact held2_start (by assumption) (by assumption)
      | exact held2 (by assumption) hA.fr
      | exact held2 (by assumption) hB.fr
      | exact held2 (held2_start x1 x2) hC.fr)
    (first
      | (go_at_call 45; (with_reducible refine (refnum_z 4 fr _ T4.out a1 u1).mono ?_); rintro e wA ⟨vA, rfl, hA⟩)
      | (go_at_call 45; (with_reducible refine (refnum_z 4 to _ T4.out b1 u2).mono ?_); rintro e wB ⟨vB, rfl, hB⟩)
      | (go_at_call 30; refine (Joined_fresh wa.drew wA _ vA vB _ _ hA.grow hB (by rw [by8_length, by8_length]; decide)).mono ?_; rintro e wC ⟨vC, rfl, hC⟩))
  clear hA hB
  obtain ⟨wd, hwd⟩ : ∃ wd, wd = wa.drew := ⟨_, rfl⟩
  rw [← hwd] at hC
  have HFD := Lib.hid (show Fr [] w wd by rw [hwd]; exact HFA.out.drew)
  have HBD := Lib.hid (show wd.heap[w.heap.size]? = some (.cells #[.bool live, .int .i64 fr, .int .i64 to, .int .i64 fp, .int .i64 tp, .int .i64 fn, .int .i64 tn] 23) by rw [hwd]; exact HBA.out)
  clear hwd
  have q3 : IntKind.u64.wrap ty = ty := wrapU_int _ (by omega) (by omega)
  have HGC := Lib.hid hC
  clear hC
  go_wp2_with fail
  refine (refnum_int 2 ty wC (by unfold Wd; omega) (by omega) (by omega)).mono ?_
  rintro e wCp ⟨yC, rfl, hpC⟩
  have HPC := Lib.hid hpC
  clear hpC
  go_wp2_with fail
  refine (Joined_fresh wd wC _ vC yC _ _ HGC.out HPC.out (by simp only [List.length_append, by8_length]; decide)).mono ?_
  rintro e wD ⟨vD, rfl, hgC⟩
  have HG3 := Lib.hid hgC
  have x3 := cell_of_row wD _ 3 _ _ _ (HG3.out.fr.obj HBD.out (by simp))
  clear hgC
  go_wp2_with fail
  refine (Ptr_any fp wD (by omega) (by omega)).mono ?_
  rintro e wDp ⟨y3, rfl, hp3⟩
  have HP3 := Lib.hid hp3
  clear hp3
  go_wp2_with fail
  refine (Joined_fresh wd wD _ vD y3 _ _ HG3.out HP3.out (by simp only [List.length_append, by8_length]; decide)).mono ?_
  rintro e wE ⟨vE, rfl, hg3⟩
  have HG5 := Lib.hid hg3
  have x5 := cell_of_row wE _ 5 _ _ _ (HG5.out.fr.obj HBD.out (by simp))
  clear hg3
  go_wp2_with fail
  refine (Ptr_any fn wE (by omega) (by omega)).mono ?_
  rintro e wEp ⟨y5, rfl, hp5⟩
  have HP5 := Lib.hid hp5
  clear hp5
  go_wp2_with fail
  refine (Joined_fresh wd wE _ vE y5 _ _ HG5.out HP5.out (by simp only [List.length_append, by8_length]; decide)).mono ?_
  rintro e wF ⟨vF, rfl, hg5⟩
  have HG4 := Lib.hid hg5
  have x4 := cell_of_row wF _ 4 _ _ _ (HG4.out.fr.obj HBD.out (by simp))
  clear hg5
  go_wp2_with fail
  refine (Ptr_any tp wF (by omega) (by omega)).mono ?_
  rintro e wFp ⟨y4, rfl, hp4⟩
  have HP4 := Lib.hid hp4
  clear hp4
  go_wp2_with fail
  refine (Joined_fresh wd wF _ vF y4 _ _ HG4.out HP4.out (by simp only [List.length_append, by8_length]; decide)).mono ?_
  rintro e wG ⟨vG, rfl, hg4⟩
  have HG6 := Lib.hid hg4
  have x6 := cell_of_row wG _ 6 _ _ _ (HG6.out.fr.obj HBD.out (by simp))
  clear hg4
  go_wp2_with fail
  refine (Ptr_any tn wG (by omega) (by omega)).mono ?_
  rintro e wGp ⟨y6, rfl, hp6⟩
  have HP6 := Lib.hid hp6
  clear hp6
  go_wp2_with fail
  refine (Joined_fresh wd wG _ vG y6 _ _ HG6.out HP6.out (by simp only [List.length_append, by8_length]; decide)).mono ?_
  rintro e wH ⟨vH, rfl, hg6⟩
  have HGG := Lib.hid hg6
  clear hg6
  go_wp2
  go_ret
  refine ⟨vH, rfl, ?_⟩
  have h := HGG.out.fresh.base HFD.out (by have := HFD.out.size; omega)
  have e : by8 (4 : Int).toNat fr.toNat ++ by8 (4 : Int).toNat to.toNat ++ by8 2 ty.toNat ++ by8 4 (fp + 1).toNat ++ by8 4 (fn + 1).toNat ++ by8 4 (tp + 1).toNat ++ by8 4 (tn + 1).toNat = lB fr to fp fn tp tn ty := by
    simp [lB, ptrs]
  rw [e] at h
  exact h
theorem infoL : (Try.prog.info? 23).map (·.size) = some 7 := by kernel_rfl
set_option maxRecDepth 100000 in
set_option maxHeartbeats 1600000 in
theorem Link_any (a : Option Addr) (c : Nat) (l : List UInt8) (w : World) (h : 26 ≤ l.length) (hl : l.length ≤ 1000) (hc : l.length ≤ c) (hb : Bytes w a l) :
    Calls Try.prog 34 #[.slice a l.length c] w fun e w' => e = .returned (.tuple #[.agg #[.bool true, .int .i64 (nm l 0 4), .int .i64 (nm l 4 4), .int .i64 (nm l 10 4 - 1), .int .i64 (nm l 18 4 - 1), .int .i64 (nm l 14 4 - 1), .int .i64 (nm l 22 4 - 1)], .int .i64 (nm l 8 2)]) ∧ Fr [] w w' := by
  have b1 := nm_le l 10 4 (by omega)
  have b2 := nm_le l 14 4 (by omega)
  have b3 := nm_le l 18 4 (by omega)
  have b4 := nm_le l 22 4 (by omega)
  obtain ⟨wa, hwa⟩ : ∃ wa, wa = w.alloc (.cells #[.bool false, .int .i64 0, .int .i64 0, .int .i64 0, .int .i64 0, .int .i64 0, .int .i64 0] 23) := ⟨_, rfl⟩
  have hba := hb.keep (show Fr [] w wa by rw [hwa]; exact (Fr.refl _ _).alloc _)
  have A1 := Lib.hid (at12_any a c l 4 0 wa (by omega) hc hba (by unfold Wd; omega) (by omega) (by omega))
  have A2 := Lib.hid (at12_any a c l 4 4 wa (by omega) hc hba (by unfold Wd; omega) (by omega) (by omega))
  have A3 := Lib.hid (at12_any a c l 4 10 wa (by omega) hc hba (by unfold Wd; omega) (by omega) (by omega))
  have A4 := Lib.hid (at12_any a c l 4 14 wa (by omega) hc hba (by unfold Wd; omega) (by omega) (by omega))
  have A5 := Lib.hid (at12_any a c l 4 18 wa (by omega) hc hba (by unfold Wd; omega) (by omega) (by omega))
  have A6 := Lib.hid (at12_any a c l 4 22 wa (by omega) hc hba (by unfold Wd; omega) (by omega) (by omega))
  have A7 := Lib.hid (at12_any a c l 2 8 wa (by omega) hc hba (by unfold Wd; omega) (by omega) (by omega))
  have HFA := Lib.hid (show Fr [] w wa by rw [hwa]; exact (Fr.refl _ _).alloc _)
  have hz : wa.heap[w.heap.size]? = some (.cells #[.bool false, .int .i64 0, .int .i64 0, .int .i64 0, .int .i64 0, .int .i64 0, .int .i64 0] 23) := by rw [hwa]; exact heap_alloc_new w _
  have HZ := Lib.hid hz
  have HWA := Lib.hid hwa
  have z0 := cell_of_row wa _ 0 _ _ _ hz
  have f0 := frozen_of_row wa _ 0 _ _ hz
  have z1 := cell_of_row wa _ 1 _ _ _ hz
  have f1 := frozen_of_row wa _ 1 _ _ hz
  have z2 := cell_of_row wa _ 2 _ _ _ hz
  have f2 := frozen_of_row wa _ 2 _ _ hz
  have z3 := cell_of_row wa _ 3 _ _ _ hz
  have f3 := frozen_of_row wa _ 3 _ _ hz
  have z4 := cell_of_row wa _ 4 _ _ _ hz
  have f4 := frozen_of_row wa _ 4 _ _ hz
  have z5 := cell_of_row wa _ 5 _ _ _ hz
  have f5 := frozen_of_row wa _ 5 _ _ hz
  have z6 := cell_of_row wa _ 6 _ _ _ hz
  have f6 := frozen_of_row wa _ 6 _ _ hz
  clear hwa hz hba hb
  go_enter Try.func34, Try.ntmps34
  go_wp2_with fail
  rw [← HWA.out]
  refine A1.out.mono ?_
  rintro e w1 ⟨rfl, rfl⟩
  go_wp2_with fail
  refine A2.out.mono ?_
  rintro e w1 ⟨rfl, rfl⟩
  go_wp2_with fail
  refine A3.out.mono ?_
  rintro e w1 ⟨rfl, rfl⟩
  go_wp2_with fail
  refine A4.out.mono ?_
  rintro e w1 ⟨rfl, rfl⟩
  go_wp2_with fail
  refine A5.out.mono ?_
  rintro e w1 ⟨rfl, rfl⟩
  go_wp2_with fail
  refine A6.out.mono ?_
  rintro e w1 ⟨rfl, rfl⟩
  go_wp2_with fail
  refine A7.out.mono ?_
  rintro e w1 ⟨rfl, rfl⟩
  go_wp2
  refine bodyPost_ret (v := .tuple #[.agg #[.bool true, .int .i64 (nm l 0 4), .int .i64 (nm l 4 4), .int .i64 (nm l 10 4 - 1), .int .i64 (nm l 18 4 - 1), .int .i64 (nm l 14 4 - 1), .int .i64 (nm l 22 4 - 1)], .int .i64 (nm l 8 2)]) ?_ rfl ⟨rfl, Fr.setCells (by simp) [.bool true, .int .i64 (nm l 0 4), .int .i64 (nm l 4 4), .int .i64 (nm l 10 4 - 1), .int .i64 (nm l 18 4 - 1), .int .i64 (nm l 14 4 - 1), .int .i64 (nm l 22 4 - 1)] 0 _ HFA.out⟩
  exact results_row Try.results34 _ _ w.heap.size 23 _ _ _ rfl rfl (obj_setCells HZ.out [.bool true, .int .i64 (nm l 0 4), .int .i64 (nm l 4 4), .int .i64 (nm l 10 4 - 1), .int .i64 (nm l 18 4 - 1), .int .i64 (nm l 14 4 - 1), .int .i64 (nm l 22 4 - 1)] rfl) Try.underlying23 rfl infoL
end Go.Proofs.Ytbhmfbhfofgfaaa

/- The walks of the document's relationships of version 2. -/
namespace Go.Proofs.Ytbhmfbhfofgfaaa
open Go.RowKit
attribute [local go_sem ↓] Go.wp_at_zero Go.wp_at_succ
theorem nine {w : World} {b T : Nat} {c0 c1 c2 c3 c4 c5 c6 c7 c8 c9 : Value} (h : w.heap[b]? = some (.cells #[c0, c1, c2, c3, c4, c5, c6, c7, c8, c9] T)) :
    w.cell? ⟨b, 0, none⟩ = some c0 ∧ w.cell? ⟨b, 1, none⟩ = some c1 ∧ w.cell? ⟨b, 2, none⟩ = some c2 ∧ w.cell? ⟨b, 3, none⟩ = some c3 ∧ w.cell? ⟨b, 4, none⟩ = some c4 ∧ w.cell? ⟨b, 5, none⟩ = some c5 ∧ w.cell? ⟨b, 6, none⟩ = some c6 ∧ w.cell? ⟨b, 7, none⟩ = some c7 ∧ w.cell? ⟨b, 8, none⟩ = some c8 :=
  ⟨cell_of_row _ _ 0 _ _ _ h, cell_of_row _ _ 1 _ _ _ h, cell_of_row _ _ 2 _ _ _ h, cell_of_row _ _ 3 _ _ _ h, cell_of_row _ _ 4 _ _ _ h, cell_of_row _ _ 5 _ _ _ h, cell_of_row _ _ 6 _ _ _ h, cell_of_row _ _ 7 _ _ _ h, cell_of_row _ _ 8 _ _ _ h⟩
end Go.Proofs.Ytbhmfbhfofgfaaa
