/- The walk of GetRel of version 2. -/
import Derived.Test.YtmekplamjlnhcaaRecH
namespace Go.Proofs.Ytmekplamjlnhcaa
open Go.RowKit

theorem infoR : (Try.prog.info? 27).map (·.size) = some 10 := by kernel_rfl
def rZero : Value := .agg #[.bool false, .int .i64 0, .int .i64 0, .int .i64 0, .int .i64 0, .int .i64 0, .int .i64 0, .int .i64 0, .int .i64 0, .slice none 0 0]
def RelV.val (r : RelV) (v : Value) : Value := .agg #[.bool r.live, .int .i64 r.fr, .int .i64 r.to, .int .i64 r.fp, .int .i64 r.tp, .int .i64 r.fn, .int .i64 r.tn, .int .i64 r.ty, .int .i64 r.ov, v]
/-- the relationship that bytes are -/
def rDec (l : List UInt8) : RelV := ⟨true, (nm l 0 4 : Int), nm l 4 4, nm l 10 4 - 1, nm l 18 4 - 1, nm l 14 4 - 1, nm l 22 4 - 1, nm l 8 2, nm l 26 4 - 1, (l.drop 30).take 32⟩
/-- what a reading of 62 bytes gives -/
def GotRel (B : Nat) (l : List UInt8) (e : Value) (w' : World) : Prop :=
  if rFine (rDec l) then ∃ v, e = .tuple #[(rDec l).val v, .int .i64 0] ∧ w'.ownsRow B 5 1 v (rDec l).sl.length ((rDec l).sl.map B8) else e = .tuple #[rZero, .int .i64 41]
theorem GotRel.yes {B : Nat} {l : List UInt8} {e : Value} {w' : World} (hf : rFine (rDec l) = true) (v : Value) (h : e = .tuple #[(rDec l).val v, .int .i64 0]) (ho : w'.ownsRow B 5 1 v (rDec l).sl.length ((rDec l).sl.map B8)) : GotRel B l e w' := by
  unfold GotRel; rw [if_pos hf]; exact ⟨v, h, ho⟩
theorem GotRel.no {B : Nat} {l : List UInt8} {e : Value} {w' : World} (hf : rFine (rDec l) = false) (h : e = .tuple #[rZero, .int .i64 41]) : GotRel B l e w' := by
  unfold GotRel; rw [if_neg (by rw [hf]; simp)]; exact h
theorem rDec_sl (l : List UInt8) (h : l.length = 62) : (rDec l).sl.length = 32 := by
  unfold rDec; simp only [List.length_take, List.length_drop]; omega
theorem own_frame {w w' : World} {B B' e : Nat} {v : Value} {l : List UInt8} (h : w.ownsRow B e 1 v l.length (l.map B8)) (hB : B' ≤ B) (hf : Fr [] w w') : w'.ownsRow B' e 1 v l.length (l.map B8) := own_base (own_fr h hf (by simp)) hB
theorem own_setCells {B e b : Nat} {v : Value} {l : List UInt8} (hb : ∀ g, v.ownBlock = some g → g ≠ b) {w : World} (vs : List Value) (o : Nat) (h : w.ownsRow B e 1 v l.length (l.map B8)) : (w.setCells b o vs).ownsRow B e 1 v l.length (l.map B8) :=
  own_fr h (Fr.setCells (S := [b]) (by simp) vs o w (Fr.refl _ _)) (by intro g hg; simp; exact hb g hg)
theorem GetRel_size (a : Option Addr) (c : Nat) (l : List UInt8) (w : World) (h : l.length ≠ 62) :
    Calls Try.prog 16 #[.slice a l.length c] w fun e w' => e = .returned (.tuple #[rZero, .int .i64 4]) ∧ Fr [] w w' := by
  have hb : ((l.length : Int) != 62) = true := by rw [bne_iff_ne]; omega
  have H := Lib.hid h; clear h
  go_enter Try.func16, Try.ntmps16
  go_wp2
  exact bodyPost_ret (v := .tuple #[rZero, .int .i64 4]) (by simp [results, Try.results16, go_sem, rZero]) rfl ⟨rfl, (Fr.refl _ _).alloc _⟩
set_option maxRecDepth 100000 in
set_option maxHeartbeats 1600000 in
theorem GetRel_any (a : Option Addr) (c : Nat) (l : List UInt8) (w : World) (h : l.length = 62) (hb : Bytes w a l) :
    Calls Try.prog 16 #[.slice a l.length c] w fun e w' => ∃ x, e = .returned x ∧ GotRel w.heap.size l x w' ∧ Fr [] w w' := by
  have hbb : ((l.length : Int) != 62) = false := by rw [bne_eq_false_iff_eq]; omega
  have HL := Lib.hid h
  have hle : l.length ≤ 100 := by omega
  have HB := Lib.hid hb
  clear hb h
  go_enter Try.func16, Try.ntmps16
  go_wp2_with fail
  refine (NewR a c l _ (by omega) (by have := HL.out; omega) (HB.out.keep ((Fr.refl _ _).alloc _))).mono ?_
  rintro e w1 ⟨p, g, rfl, hr, hg, hgp, hf⟩
  have hz := hf.obj (heap_alloc_new w (.cells #[.bool false, .int .i64 0, .int .i64 0, .int .i64 0, .int .i64 0, .int .i64 0, .int .i64 0, .int .i64 0, .int .i64 0, .slice none 0 0] 27)) (by simp)
  have HZ1 := Lib.hid hz
  have HF1 := Lib.hid (((Fr.refl [] w).alloc _).trans hf)
  have hgw : w.heap.size < g := by simp at hg; omega
  have HR1 := Lib.hid hr
  have hp1 := hr.lt
  clear hr hf hz hg
  go_wp2_with fail
  obtain ⟨wb, hwb⟩ : ∃ wb, wb = w1.alloc (.cells #[.bool true, .int .i64 0, .int .i64 0, .int .i64 0, .int .i64 0, .int .i64 0, .int .i64 0, .int .i64 0, .int .i64 0, .slice none 0 0] 27) := ⟨_, rfl⟩
  rw [← hwb]
  have hfb : Fr [] w1 wb := by rw [hwb]; exact (Fr.refl _ _).alloc _
  have hob : wb.heap[w1.heap.size]? = some (.cells #[.bool true, .int .i64 0, .int .i64 0, .int .i64 0, .int .i64 0, .int .i64 0, .int .i64 0, .int .i64 0, .int .i64 0, .slice none 0 0] 27) := by rw [hwb]; exact heap_alloc_new w1 _
  clear hwb
  refine (NumR wb p g l 0 4 (HR1.out.fr hfb (by simp) (by simp)) (by omega) (by unfold Wd; omega) (by omega) (by have := HL.out; omega)).mono ?_
  rintro e w2 ⟨rfl, hr, hf⟩
  have HR2 := Lib.hid hr
  have HF2 := Lib.hid ((hfb.mono (T := [p]) (by simp)).trans hf)
  have HO2 := Lib.hid (hf.obj hob (by simp; omega))
  have i1 := wrap_nm l 0 4 (by omega)
  clear hr hf hob hfb
  go_wp2_with fail
  refine (NumR w2 p g l _ 4 HR2.out (by omega) (by unfold Wd; omega) (by omega) (by have := HL.out; omega)).mono ?_
  rintro e w3 ⟨rfl, hr, hf⟩
  have HR3 := Lib.hid hr
  have HF3 := Lib.hid (HF2.out.trans hf)
  have HO3 := Lib.hid (hf.obj HO2.out (by simp; omega))
  have i2 := wrap_nm l 4 4 (by omega)
  clear hr hf
  go_wp2_with fail
  refine (NumR w3 p g l _ 2 HR3.out (by omega) (by unfold Wd; omega) (by omega) (by have := HL.out; omega)).mono ?_
  rintro e w4 ⟨rfl, hr, hf⟩
  have HR4 := Lib.hid hr
  have HF4 := Lib.hid (HF3.out.trans hf)
  have HO4 := Lib.hid (hf.obj HO3.out (by simp; omega))
  have i3 := wrap_nm l 8 2 (by omega)
  clear hr hf
  have x1 := cell_of_row w4 _ 1 _ _ _ HO4.out
  have x2 := cell_of_row w4 _ 2 _ _ _ HO4.out
  have x7 := cell_of_row w4 _ 7 _ _ _ HO4.out
  have f1 := frozen_of_row w4 _ 1 _ _ HO4.out
  have f2 := frozen_of_row w4 _ 2 _ _ HO4.out
  have f7 := frozen_of_row w4 _ 7 _ _ HO4.out
  go_wp2_with fail
  clear x1 x2 x7 f1 f2 f7
  obtain ⟨w5, hw5⟩ : ∃ w5, w5 = ((w4.setCell ⟨w1.heap.size, 1, none⟩ (.int .i64 (nm l 0 4))).setCell ⟨w1.heap.size, 2, none⟩ (.int .i64 (nm l 4 4))).setCell ⟨w1.heap.size, 7, none⟩ (.int .i64 (nm l 8 2)) := ⟨_, rfl⟩
  rw [← hw5]
  have hs5 : w5.heap.size = w4.heap.size := by rw [hw5]; simp
  have hf5 : Fr [w1.heap.size] w4 w5 := by rw [hw5]; exact (((Fr.refl _ _).setCell (by simp) _).setCell (by simp) _).setCell (by simp) _
  have ho5 : w5.heap[w1.heap.size]? = some (.cells (List.toArray [.bool true, .int .i64 (nm l 0 4), .int .i64 (nm l 4 4), .int .i64 0, .int .i64 0, .int .i64 0, .int .i64 0, .int .i64 (nm l 8 2), .int .i64 0, .slice none 0 0]) 27) := by
    rw [hw5]; exact heap_setCell_same _ _ 7 _ _ _ (heap_setCell_same _ _ 2 _ _ _ (heap_setCell_same _ _ 1 _ _ _ HO4.out))
  clear hw5
  have hlt4 := (Array.getElem?_eq_some_iff.1 HO4.out).1
  have HS5 := Lib.hid hs5
  refine (getR _ p g w1.heap.size w4.heap.size 5 27 l _ [.bool true, .int .i64 (nm l 0 4), .int .i64 (nm l 4 4), .int .i64 0, .int .i64 0, .int .i64 0, .int .i64 0, .int .i64 (nm l 8 2), .int .i64 0, .slice none 0 0] [3, 5, 4, 6, 8] (HR4.out.fr ((hf5.alloc _)) (by simp; omega) (by simp; omega)) (by omega) (by have := HL.out; simp; omega)
    (((Fr.refl [] _).alloc _).obj ho5 (by simp)) (by simp) (ptr_cells _ _ _ [3, 5, 4, 6, 8] _ hs5.symm) (by omega) (by omega) (by have := HR4.out.lt; omega) (by omega)).mono ?_
  rintro e w6 ⟨rfl, hr6, hob, hf6⟩
  have hob6 : w6.heap[w1.heap.size]? = some (.cells #[.bool true, .int .i64 (nm l 0 4), .int .i64 (nm l 4 4), .int .i64 (nm l 10 4 - 1), .int .i64 (nm l 18 4 - 1), .int .i64 (nm l 14 4 - 1), .int .i64 (nm l 22 4 - 1), .int .i64 (nm l 8 2), .int .i64 (nm l 26 4 - 1), .slice none 0 0] 27) := hob
  have HO6 := Lib.hid hob6
  have HR6 := Lib.hid hr6
  have HF6 := Lib.hid ((HF4.out.mono (T := [p, w1.heap.size]) (by simp)).trans (((hf5.alloc _).mono (T := [p, w1.heap.size]) (by simp)).trans hf6))
  clear hr6 hob hf6 hob6 hf5 ho5 hs5 i1 i2 i3
  go_wp2_with fail
  refine (RawR w6 p g l _ 32 HR6.out (by omega) (by have := HL.out; simp; omega)).mono ?_
  rintro e w7 ⟨v, rfl, hown, hr7, hf7⟩
  have hq : (l.drop (0 + 4 + 4 + 2 + 4 * [3, 5, 4, 6, 8].length)).take 32 = (l.drop 30).take 32 := rfl
  obtain ⟨S, hS⟩ : ∃ S, S = (l.drop 30).take 32 := ⟨_, rfl⟩
  rw [hq, ← hS] at hown
  have HSS := Lib.hid hS
  have HSL := Lib.hid (show S.length = 32 by rw [hS]; have := HL.out; simp only [List.length_take, List.length_drop]; omega)
  clear hS
  have HW7 := Lib.hid hown
  obtain ⟨sa, sc, rfl, _⟩ := Bytes.of_own hown
  have HF7 := Lib.hid (HF6.out.trans (hf7.mono (T := [p, w1.heap.size]) (by simp)))
  have HO7 := Lib.hid (hf7.obj HO6.out (by simp; omega))
  have hs67 := hf7.size
  have x0 := cell_of_row w7 _ 0 _ _ _ HO7.out
  have x1 := cell_of_row w7 _ 1 _ _ _ HO7.out
  have x2 := cell_of_row w7 _ 2 _ _ _ HO7.out
  have x3 := cell_of_row w7 _ 3 _ _ _ HO7.out
  have x4 := cell_of_row w7 _ 4 _ _ _ HO7.out
  have x5 := cell_of_row w7 _ 5 _ _ _ HO7.out
  have x6 := cell_of_row w7 _ 6 _ _ _ HO7.out
  have x7 := cell_of_row w7 _ 7 _ _ _ HO7.out
  have x8 := cell_of_row w7 _ 8 _ _ _ HO7.out
  have x9 := cell_of_row w7 _ 9 _ _ _ HO7.out
  have f9 := frozen_of_row w7 _ 9 _ _ HO7.out
  have hvlo : ∀ i, Value.ownBlock (.slice sa S.length sc) = some i → w6.heap.size ≤ i := fun i hi => (own_lt hown hi).1
  have HVL := Lib.hid hvlo
  have hlt6 := (Array.getElem?_eq_some_iff.1 HO6.out).1
  clear hown hr7 hf7 hq hvlo
  go_wp2_with fail
  clear x0 x1 x2 x3 x4 x5 x6 x7 x8 x9 f9
  obtain ⟨w8, hw8⟩ : ∃ w8, w8 = w7.setCell ⟨w1.heap.size, 9, none⟩ (.slice sa S.length sc) := ⟨_, rfl⟩
  rw [← hw8]
  have ho8 : w8.heap[w1.heap.size]? = some (.cells #[.bool true, .int .i64 (nm l 0 4), .int .i64 (nm l 4 4), .int .i64 (nm l 10 4 - 1), .int .i64 (nm l 18 4 - 1), .int .i64 (nm l 14 4 - 1), .int .i64 (nm l 22 4 - 1), .int .i64 (nm l 8 2), .int .i64 (nm l 26 4 - 1), .slice sa S.length sc] 27) := by
    rw [hw8]; exact heap_setCell_same _ _ 9 _ _ _ HO7.out
  have hf8 : Fr [w1.heap.size] w7 w8 := by rw [hw8]; exact (Fr.refl _ _).setCell (by simp) _
  clear hw8
  have HO8 := Lib.hid ho8
  have HW8 := Lib.hid (own_fr HW7.out hf8 (by intro i hi; have := HVL.out i hi; simp; omega))
  have HF8 := Lib.hid (HF7.out.trans (hf8.mono (T := [p, w1.heap.size]) (by simp)))
  clear ho8 hf8
  refine (relFine_any true (nm l 0 4) (nm l 4 4) (nm l 10 4 - 1) (nm l 18 4 - 1) (nm l 14 4 - 1) (nm l 22 4 - 1) (nm l 8 2) (nm l 26 4 - 1) sa sc S w8).mono ?_
  rintro e w9 ⟨rfl, hf9⟩
  have hsz1 := HF1.out.size
  have o1 := hf9.obj (HF8.out.obj HZ1.out (by simp; omega)) (by simp)
  have o2 := hf9.obj HO8.out (by simp)
  have z0 := cell_of_row w9 _ 0 _ _ _ o1
  have z1 := cell_of_row w9 _ 1 _ _ _ o1
  have z2 := cell_of_row w9 _ 2 _ _ _ o1
  have z3 := cell_of_row w9 _ 3 _ _ _ o1
  have z4 := cell_of_row w9 _ 4 _ _ _ o1
  have z5 := cell_of_row w9 _ 5 _ _ _ o1
  have z6 := cell_of_row w9 _ 6 _ _ _ o1
  have z7 := cell_of_row w9 _ 7 _ _ _ o1
  have z8 := cell_of_row w9 _ 8 _ _ _ o1
  have z9 := cell_of_row w9 _ 9 _ _ _ o1
  have zf0 := frozen_of_row w9 _ 0 _ _ o1
  have zf1 := frozen_of_row w9 _ 1 _ _ o1
  have zf2 := frozen_of_row w9 _ 2 _ _ o1
  have zf3 := frozen_of_row w9 _ 3 _ _ o1
  have zf4 := frozen_of_row w9 _ 4 _ _ o1
  have zf5 := frozen_of_row w9 _ 5 _ _ o1
  have zf6 := frozen_of_row w9 _ 6 _ _ o1
  have zf7 := frozen_of_row w9 _ 7 _ _ o1
  have zf8 := frozen_of_row w9 _ 8 _ _ o1
  have zf9 := frozen_of_row w9 _ 9 _ _ o1
  have y0 := cell_of_row w9 _ 0 _ _ _ o2
  have y1 := cell_of_row w9 _ 1 _ _ _ o2
  have y2 := cell_of_row w9 _ 2 _ _ _ o2
  have y3 := cell_of_row w9 _ 3 _ _ _ o2
  have y4 := cell_of_row w9 _ 4 _ _ _ o2
  have y5 := cell_of_row w9 _ 5 _ _ _ o2
  have y6 := cell_of_row w9 _ 6 _ _ _ o2
  have y7 := cell_of_row w9 _ 7 _ _ _ o2
  have y8 := cell_of_row w9 _ 8 _ _ _ o2
  have y9 := cell_of_row w9 _ 9 _ _ _ o2
  have O1 := Lib.hid o1
  have HW9 := Lib.hid (own_fr HW8.out hf9 (by simp))
  have HF9 := Lib.hid (show Fr [] w w9 from (HF1.out.next HF8.out (by intro i hi hlt; simp at hi; omega)).trans hf9)
  clear o1 o2 hf9
  cases hfin : rFine (rDec l)
  · rw [show rFine ⟨true, (nm l 0 4 : Int), nm l 4 4, nm l 10 4 - 1, nm l 18 4 - 1, nm l 14 4 - 1, nm l 22 4 - 1, nm l 8 2, nm l 26 4 - 1, S⟩ = false by rw [HSS.out]; exact hfin]
    have HFIN := Lib.hid hfin
    clear hfin
    go_wp2
    refine bodyPost_ret (v := .tuple #[rZero, .int .i64 41]) ?_ rfl ⟨_, rfl, GotRel.no HFIN.out rfl, Fr.setCells (by simp) [.bool false, .int .i64 0, .int .i64 0, .int .i64 0, .int .i64 0, .int .i64 0, .int .i64 0, .int .i64 0, .int .i64 0, .slice none 0 0] 0 _ HF9.out⟩
    exact results_row Try.results16 _ _ w.heap.size 27 _ _ _ rfl rfl (obj_setCells O1.out [.bool false, .int .i64 0, .int .i64 0, .int .i64 0, .int .i64 0, .int .i64 0, .int .i64 0, .int .i64 0, .int .i64 0, .slice none 0 0] rfl) Try.underlying27 rfl infoR
  · rw [show rFine ⟨true, (nm l 0 4 : Int), nm l 4 4, nm l 10 4 - 1, nm l 18 4 - 1, nm l 14 4 - 1, nm l 22 4 - 1, nm l 8 2, nm l 26 4 - 1, S⟩ = true by rw [HSS.out]; exact hfin]
    have HFIN := Lib.hid hfin
    clear hfin
    go_wp2
    have hsl : (rDec l).sl = S := HSS.out.symm
    refine bodyPost_ret (v := .tuple #[(rDec l).val (.slice sa S.length sc), .int .i64 0]) ?_ rfl ⟨_, rfl, GotRel.yes HFIN.out _ rfl (by rw [hsl]; exact own_frame (own_setCells (b := w.heap.size) (by intro i hi; have := HVL.out i hi; omega) [.bool true, .int .i64 (nm l 0 4), .int .i64 (nm l 4 4), .int .i64 (nm l 10 4 - 1), .int .i64 (nm l 18 4 - 1), .int .i64 (nm l 14 4 - 1), .int .i64 (nm l 22 4 - 1), .int .i64 (nm l 8 2), .int .i64 (nm l 26 4 - 1), .slice sa S.length sc] 0 HW9.out) (by omega) (Fr.refl _ _)), Fr.setCells (by simp) [.bool true, .int .i64 (nm l 0 4), .int .i64 (nm l 4 4), .int .i64 (nm l 10 4 - 1), .int .i64 (nm l 18 4 - 1), .int .i64 (nm l 14 4 - 1), .int .i64 (nm l 22 4 - 1), .int .i64 (nm l 8 2), .int .i64 (nm l 26 4 - 1), .slice sa S.length sc] 0 _ HF9.out⟩
    exact results_row Try.results16 _ _ w.heap.size 27 _ _ _ rfl rfl (obj_setCells O1.out [.bool true, .int .i64 (nm l 0 4), .int .i64 (nm l 4 4), .int .i64 (nm l 10 4 - 1), .int .i64 (nm l 18 4 - 1), .int .i64 (nm l 14 4 - 1), .int .i64 (nm l 22 4 - 1), .int .i64 (nm l 8 2), .int .i64 (nm l 26 4 - 1), .slice sa S.length sc] rfl) Try.underlying27 rfl infoR
end Go.Proofs.Ytmekplamjlnhcaa
