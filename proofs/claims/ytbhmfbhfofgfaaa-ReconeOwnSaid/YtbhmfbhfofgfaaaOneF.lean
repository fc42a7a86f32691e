/- The document's GetRel of version 1. -/
import Derived.Test.YtbhmfbhfofgfaaaOneE
import Derived.Deep.MidRow
namespace Go.Proofs.Ytbhmfbhfofgfaaa
open Go.RowKit
attribute [local go_sem ↓] Go.wp_at_zero Go.wp_at_succ
theorem sevenO {w : World} {b T : Nat} {c0 c1 c2 c3 c4 c5 c6 : Value} (h : w.heap[b]? = some (.cells #[c0, c1, c2, c3, c4, c5, c6] T)) :
    w.cell? ⟨b, 0, none⟩ = some c0 ∧ w.cell? ⟨b, 1, none⟩ = some c1 ∧ w.cell? ⟨b, 2, none⟩ = some c2 ∧ w.cell? ⟨b, 3, none⟩ = some c3 ∧ w.cell? ⟨b, 4, none⟩ = some c4 ∧ w.cell? ⟨b, 5, none⟩ = some c5 ∧ w.cell? ⟨b, 6, none⟩ = some c6 :=
  ⟨cell_of_row _ _ 0 _ _ _ h, cell_of_row _ _ 1 _ _ _ h, cell_of_row _ _ 2 _ _ _ h, cell_of_row _ _ 3 _ _ _ h, cell_of_row _ _ 4 _ _ _ h, cell_of_row _ _ 5 _ _ _ h, cell_of_row _ _ 6 _ _ _ h⟩
def ZatO (w : World) (g : Nat) : Prop := w.heap[g]? = some (.cells #[.bool false, .int .i64 0, .int .i64 0, .int .i64 0, .int .i64 0, .int .i64 0, .int .i64 0, .int .i64 0, .int .i64 0] 25)
theorem ZatO.there {w : World} {g : Nat} (h : ZatO w g) : w.there g 0 9 := by
  intro j hj
  unfold ZatO at h
  refine ⟨?_, frozen_of_row w g _ _ _ h⟩
  rw [cell_of_row w g _ _ _ _ h]
  simp only [Nat.zero_add]
  rw [Array.getElem?_eq_getElem (by simpa using hj)]
  rfl
theorem ZatO.alloc (w : World) : ZatO (w.alloc (.cells #[.bool false, .int .i64 0, .int .i64 0, .int .i64 0, .int .i64 0, .int .i64 0, .int .i64 0, .int .i64 0, .int .i64 0] 25)) w.heap.size := heap_alloc_new w _
theorem ZatO.allocD (w : World) : ZatO (w.alloc (.cells #[.bool false, .int .i64 0, .int .i64 0, .int .i64 0, .int .i64 0, .int .i64 0, .int .i64 0, .int .i64 0, .int .i64 0] 25)).drew w.heap.size := heap_alloc_new w _
def isOne : Value → Bool
  | .agg ⟨[.bool _, .int .i64 _, .int .i64 _, .int .i64 _, .int .i64 _, .int .i64 _, .int .i64 _, .int .i64 _, .int .i64 _]⟩ => true
  | _ => false
theorem isOne_a (b : Bool) (z1 z2 z3 z4 z5 z6 z7 z8 : Int) : isOne (.agg #[.bool b, .int .i64 z1, .int .i64 z2, .int .i64 z3, .int .i64 z4, .int .i64 z5, .int .i64 z6, .int .i64 z7, .int .i64 z8]) = true := rfl
theorem one_eq {v : Value} (h : isOne v = true) : v = .agg (vcs v).toArray ∧ (vcs v).toArray.size = 9 ∧ (vcs v).toArray.all (·.oneCell') = true := by
  unfold isOne at h
  split at h
  · exact ⟨rfl, rfl, by simp [vcs, Value.oneCell']⟩
  · cases h
theorem wp_storeO' {d : Option Tmp} {x y : Operand} {ty : TypeId} {ps : String} {af : Array Edge} {a : Act} {w : World} {K : Act → World → Prop} {Q : Exit → Act → World → Prop} (b : Nat) (cs : List Value)
    (hz : w.there b 0 cs.toArray.size) (hi : (Try.prog.info? 25).map (·.size) = some cs.toArray.size) (h1 : cs.toArray.all (·.oneCell') = true) (hx : a.eval x = .pointer (some ⟨b, 0, none⟩)) (hy : a.eval y = .agg cs.toArray) :
    Oper.wp Try.prog { dst := d, op := .store 25 x y, type := ty, pos := ps, after := af, guard := none } a w K Q = K (a.put d undef) (w.setCells b 0 cs) := by
  unfold Oper.wp execOp
  simp only [hx, hy, Instr.storeAt, Instr.sureAddr, Sem.run_bind, Sem.run_pure, Result.andThen_ok, run_storeVar_mid w b 0 25 cs.toArray hz hi h1]
  rfl
/-- a whole relationship goes into a variable, in a region that draws its order -/
theorem wp_storeO {d : Option Tmp} {x y : Operand} {ty : TypeId} {ps : String} {af : Array Edge} {a : Act} {w : World} {K : Act → World → Prop} {Q : Exit → Act → World → Prop}
    (hz : ZatO w (adr (a.eval x))) (hx : isAt0 (a.eval x) = true) (hy : isOne (a.eval y) = true) :
    Oper.wp Try.prog { dst := d, op := .store 25 x y, type := ty, pos := ps, after := af, guard := none } a w K Q = K (a.put d undef) (w.setCells (adr (a.eval x)) 0 (vcs (a.eval y))) := by
  obtain ⟨e2, hs, h1⟩ := one_eq hy
  exact wp_storeO' _ _ (by rw [hs]; exact hz.there) (by rw [hs]; exact infoRo) h1 (at0_eq hx) e2
attribute [local go_sem ↓] wp_storeO
attribute [local go_sem] adr_p vcs_a isAt0_p isOne_a ZatO.alloc ZatO.allocD
theorem oneA (wA : World) (cs : List Value) (hl : cs.length = 9) : ((wA.alloc (.cells #[.bool false, .int .i64 0, .int .i64 0, .int .i64 0, .int .i64 0, .int .i64 0, .int .i64 0, .int .i64 0, .int .i64 0] 25)).setCells wA.heap.size 0 cs).heap[wA.heap.size]? = some (.cells cs.toArray 25) ∧ Fr [] wA ((wA.alloc (.cells #[.bool false, .int .i64 0, .int .i64 0, .int .i64 0, .int .i64 0, .int .i64 0, .int .i64 0, .int .i64 0, .int .i64 0] 25)).setCells wA.heap.size 0 cs) :=
  ⟨obj_setCells (heap_alloc_new wA _) cs (by rw [hl]; rfl), Fr.setCells (by simp) cs 0 _ ((Fr.refl _ _).alloc _)⟩
theorem refGetRo_size (a : Option Addr) (c : Nat) (l : List UInt8) (w : World) (h : l.length ≠ 30) :
    Calls Try.prog 16 #[.slice a l.length c] w fun e w' => ∃ x, e = .returned x ∧ GetRo w l w' x := by
  have hb : ((l.length : Int) != 30) = true := by rw [bne_iff_ne]; omega
  have H := Lib.hid h; clear h
  go_enter Try.func16, Try.ntmps16
  go_wp2
  exact bodyPost_ret (v := .tuple #[zRo, .int .i64 4]) (by simp [results, Try.results16, go_sem, zRo]) rfl ⟨_, rfl, _, by rw [errRo_size H.out], ((Fr.refl _ _).alloc _).alloc _, by rw [if_neg (by rw [errRo_size H.out]; decide)]⟩
set_option maxRecDepth 100000 in
set_option maxHeartbeats 4000000 in
theorem refGetRo_any (a : Option Addr) (c : Nat) (l : List UInt8) (w : World) (h : l.length = 30) (hc : l.length ≤ c) (hb : Bytes w a l) :
    Calls Try.prog 16 #[.slice a l.length c] w fun e w' => ∃ x, e = .returned x ∧ GetRo w l w' x := by
  have hbb : ((l.length : Int) != 30) = false := by rw [bne_eq_false_iff_eq]; omega
  have HL := Lib.hid h
  have hle : l.length ≤ 100 := by omega
  have HB := Lib.hid hb
  obtain ⟨ab, ao, rfl, _⟩ := hb.at (by omega)
  have n1 := nm_le l 26 4 (by omega)
  have n2 : IntKind.i64.wrap ((nm l 26 4 : Int) - 1) = (nm l 26 4 : Int) - 1 := IntWalk.i64_in _ (by omega)
  clear hb h
  go_enter Try.func16, Try.ntmps16
  go_wp2_with fail
  obtain ⟨wa, hwa⟩ : ∃ wa, wa = (w.alloc (.cells #[.bool false, .int .i64 0, .int .i64 0, .int .i64 0, .int .i64 0, .int .i64 0, .int .i64 0, .int .i64 0, .int .i64 0] 25)).alloc (.cells #[.bool false, .int .i64 0, .int .i64 0, .int .i64 0, .int .i64 0, .int .i64 0, .int .i64 0, .int .i64 0, .int .i64 0] 25) := ⟨_, rfl⟩
  rw [← hwa]
  have hfa : Fr [] w wa := by rw [hwa]; exact ((Fr.refl _ _).alloc _).alloc _
  have hz1 : wa.heap[w.heap.size]? = some (.cells #[.bool false, .int .i64 0, .int .i64 0, .int .i64 0, .int .i64 0, .int .i64 0, .int .i64 0, .int .i64 0, .int .i64 0] 25) := by rw [hwa]; exact heap_alloc2_old w _ _
  have hz2 : wa.heap[w.heap.size + 1]? = some (.cells #[.bool false, .int .i64 0, .int .i64 0, .int .i64 0, .int .i64 0, .int .i64 0, .int .i64 0, .int .i64 0, .int .i64 0] 25) := by rw [hwa]; exact heap_alloc2_new w _ _
  clear hwa
  refine (Link_any _ c l wa (by have := HL.out; omega) (by omega) hc (HB.out.keep hfa)).mono ?_
  rintro e w1 ⟨rfl, hf1⟩
  have HZ1 := Lib.hid (hf1.obj hz1 (by simp))
  have HZ2 := Lib.hid (hf1.obj hz2 (by simp))
  have HF1 := Lib.hid (hfa.trans hf1)
  clear hz1 hz2 hfa hf1
  go_wp2_with fail
  obtain ⟨wb, hwb⟩ : ∃ wb, wb = w1.alloc (.cells #[.bool true, .int .i64 (nm l 0 4), .int .i64 (nm l 4 4), .int .i64 (nm l 10 4 - 1), .int .i64 (nm l 18 4 - 1), .int .i64 (nm l 14 4 - 1), .int .i64 (nm l 22 4 - 1)] 23) := ⟨_, rfl⟩
  rw [← hwb]
  have hfb : Fr [] w1 wb := by rw [hwb]; exact (Fr.refl _ _).alloc _
  have hob : wb.heap[w1.heap.size]? = some (.cells #[.bool true, .int .i64 (nm l 0 4), .int .i64 (nm l 4 4), .int .i64 (nm l 10 4 - 1), .int .i64 (nm l 18 4 - 1), .int .i64 (nm l 14 4 - 1), .int .i64 (nm l 22 4 - 1)] 23) := by rw [hwb]; exact heap_alloc_new w1 _
  have hsb : w1.heap.size < wb.heap.size := (Array.getElem?_eq_some_iff.1 hob).1
  clear hwb
  have hobd : wb.drew.heap[w1.heap.size]? = some (.cells #[.bool true, .int .i64 (nm l 0 4), .int .i64 (nm l 4 4), .int .i64 (nm l 10 4 - 1), .int .i64 (nm l 18 4 - 1), .int .i64 (nm l 14 4 - 1), .int .i64 (nm l 22 4 - 1)] 23) := hob
  have hobz : (wb.alloc (.cells #[.bool false, .int .i64 0, .int .i64 0, .int .i64 0, .int .i64 0, .int .i64 0, .int .i64 0, .int .i64 0, .int .i64 0] 25)).drew.heap[w1.heap.size]? = some (.cells #[.bool true, .int .i64 (nm l 0 4), .int .i64 (nm l 4 4), .int .i64 (nm l 10 4 - 1), .int .i64 (nm l 18 4 - 1), .int .i64 (nm l 14 4 - 1), .int .i64 (nm l 22 4 - 1)] 23) := ((Fr.refl [] wb).alloc _).obj hob (by simp)
  have HFB := Lib.hid (HF1.out.trans hfb)
  have HFZ := Lib.hid (show Fr [] w (wb.alloc (.cells #[.bool false, .int .i64 0, .int .i64 0, .int .i64 0, .int .i64 0, .int .i64 0, .int .i64 0, .int .i64 0, .int .i64 0] 25)).drew from (HFB.out.alloc _).drew)
  have HOB := Lib.hid hob
  have HZ1 := Lib.hid (hfb.obj HZ1.out (by simp))
  have HZ2 := Lib.hid (hfb.obj HZ2.out (by simp))
  have HFb1 := Lib.hid hfb
  clear hfb
  have HAT := Lib.hid (fun w hb => at12_any (some ⟨ab, ao, none⟩) c l 4 26 w (by omega) hc hb (by unfold Wd; omega) (by omega) (by have := HL.out; omega))
  go_region_held3? (fun w' => w'.cell? ⟨w1.heap.size, 0, none⟩ = some (.bool true) ∧ w'.cell? ⟨w1.heap.size, 1, none⟩ = some (.int .i64 (nm l 0 4)) ∧ w'.cell? ⟨w1.heap.size, 2, none⟩ = some (.int .i64 (nm l 4 4)) ∧ w'.cell? ⟨w1.heap.size, 3, none⟩ = some (.int .i64 (nm l 10 4 - 1)) ∧ w'.cell? ⟨w1.heap.size, 4, none⟩ = some (.int .i64 (nm l 18 4 - 1)) ∧ w'.cell? ⟨w1.heap.size, 5, none⟩ = some (.int .i64 (nm l 14 4 - 1)) ∧ w'.cell? ⟨w1.heap.size, 6, none⟩ = some (.int .i64 (nm l 22 4 - 1)))
    (first
      | with_reducible refine seven_set ?_ ?_ <;> first | assumption | omega | (have := hA.size; simp at this; omega)
      | with_reducible assumption
      | with_reducible exact sevenO hobd
      | with_reducible exact sevenO hobz
      | (with_reducible refine seven_fr ?_ ((Fr.refl [] _).alloc _) (by simp) ; assumption))
    (first
      | (go_at_call 35; refine (HAT.out _ (by first | exact HB.out.keep HFB.out.drew | exact HB.out.keep HFZ.out)).mono ?_; rintro e wA' ⟨rfl, rfl⟩))
  all_goals
    generalize hwX : World.setCells _ _ _ _ = wX
    have hX : wX.heap[wb.heap.size]? = some (.cells (List.toArray [.bool true, .int .i64 (nm l 0 4), .int .i64 (nm l 4 4), .int .i64 (nm l 10 4 - 1), .int .i64 (nm l 18 4 - 1), .int .i64 (nm l 14 4 - 1), .int .i64 (nm l 22 4 - 1), .int .i64 (nm l 8 2), .int .i64 (nm l 26 4 - 1)]) 25) := by
      rw [← hwX]
      exact obj_setCells (heap_alloc_new wb _) [.bool true, .int .i64 (nm l 0 4), .int .i64 (nm l 4 4), .int .i64 (nm l 10 4 - 1), .int .i64 (nm l 18 4 - 1), .int .i64 (nm l 14 4 - 1), .int .i64 (nm l 22 4 - 1), .int .i64 (nm l 8 2), .int .i64 (nm l 26 4 - 1)] rfl
    have fX : Fr [] wb wX := by
      rw [← hwX]
      exact Fr.setCells (by simp) _ 0 _ (by first | exact ((Fr.refl _ _).alloc _).drew | exact (Fr.refl _ _).drew.alloc _)
    have HFX := Lib.hid (HFB.out.trans fX)
    have HZ1X := Lib.hid (fX.obj HZ1.out (by simp))
    have HZ2X := Lib.hid (fX.obj HZ2.out (by simp))
    have HXX := Lib.hid hX
    have x0 := cell_of_row wX _ 0 _ _ _ hX
    have x1 := cell_of_row wX _ 1 _ _ _ hX
    have x2 := cell_of_row wX _ 2 _ _ _ hX
    have x3 := cell_of_row wX _ 3 _ _ _ hX
    have x4 := cell_of_row wX _ 4 _ _ _ hX
    have x5 := cell_of_row wX _ 5 _ _ _ hX
    have x6 := cell_of_row wX _ 6 _ _ _ hX
    have x7 := cell_of_row wX _ 7 _ _ _ hX
    have x8 := cell_of_row wX _ 8 _ _ _ hX
    clear hX fX hwX hobd hobz
    go_wp2_with fail
    cases hfin : oFine (oDec l)
    · have HFIN := Lib.hid hfin
      have HER := Lib.hid (show errRo l = 41 from errRo_bad HL.out (by rw [oBad_fine, hfin]; rfl))
      refine (refPutRo_no true (nm l 0 4) (nm l 4 4) (nm l 10 4 - 1) (nm l 18 4 - 1) (nm l 14 4 - 1) (nm l 22 4 - 1) (nm l 8 2) (nm l 26 4 - 1) wX hfin).mono ?_
      clear hfin
      rintro e w5 ⟨v, rfl, hv⟩
      have HV := Lib.hid hv.fr
      clear hv x0 x1 x2 x3 x4 x5 x6 x7 x8
      have o1 := HV.out.obj HZ1X.out (by simp)
      have o2 := HV.out.obj HZ2X.out (by simp)
      have hz1 : ZatO w5 w.heap.size := o1
      have O1 := Lib.hid o1
      have y0 := cell_of_row w5 _ 0 _ _ _ o2
      have y1 := cell_of_row w5 _ 1 _ _ _ o2
      have y2 := cell_of_row w5 _ 2 _ _ _ o2
      have y3 := cell_of_row w5 _ 3 _ _ _ o2
      have y4 := cell_of_row w5 _ 4 _ _ _ o2
      have y5 := cell_of_row w5 _ 5 _ _ _ o2
      have y6 := cell_of_row w5 _ 6 _ _ _ o2
      have y7 := cell_of_row w5 _ 7 _ _ _ o2
      have y8 := cell_of_row w5 _ 8 _ _ _ o2
      clear o1 o2
      go_wp2
      refine bodyPost_ret (v := .tuple #[zRo, .int .i64 41]) ?_ rfl ⟨_, rfl, _, by rw [HER.out], Fr.setCells (by simp) [.bool false, .int .i64 0, .int .i64 0, .int .i64 0, .int .i64 0, .int .i64 0, .int .i64 0, .int .i64 0, .int .i64 0] 0 _ (HFX.out.trans HV.out), by rw [if_neg (by rw [HER.out]; decide)]⟩
      exact results_row Try.results16 _ _ w.heap.size 25 _ _ _ rfl rfl (obj_setCells O1.out [.bool false, .int .i64 0, .int .i64 0, .int .i64 0, .int .i64 0, .int .i64 0, .int .i64 0, .int .i64 0, .int .i64 0] rfl) Try.underlying25 rfl infoRo
    · have HFIN := Lib.hid hfin
      have HER := Lib.hid (show errRo l = 0 from errRo_ok HL.out (by rw [oBad_fine, hfin]; rfl))
      have hy := refPutRo_yes true (nm l 0 4) (nm l 4 4) (nm l 10 4 - 1) (nm l 18 4 - 1) (nm l 14 4 - 1) (nm l 22 4 - 1) (nm l 8 2) (nm l 26 4 - 1) wX hfin
      rw [show oB ⟨true, (nm l 0 4 : Int), nm l 4 4, nm l 10 4 - 1, nm l 18 4 - 1, nm l 14 4 - 1, nm l 22 4 - 1, nm l 8 2, nm l 26 4 - 1⟩ = l from oB_oDec l HL.out] at hy
      have HY := Lib.hid hy
      clear hfin hy
      refine HY.out.mono ?_
      rintro e w5 ⟨v, rfl, hv⟩
      obtain ⟨g, cap, rfl, hg, hlt, hbv, hfv⟩ := hv.bytes
      have HV := Lib.hid hfv
      have q1 := conv_any (some ⟨g, 0, none⟩) cap l w5 (fun h => by cases h) hbv
      have q2 := conv_any (some ⟨ab, ao, none⟩) c l w5 (fun h => by cases h) (HB.out.keep (HFX.out.trans HV.out))
      clear hv hbv hfv hg hlt x0 x1 x2 x3 x4 x5 x6 x7 x8
      have o1 := HV.out.obj HZ1X.out (by simp)
      have o2 := HV.out.obj HXX.out (by simp)
      have hz1 : ZatO w5 w.heap.size := o1
      have O1 := Lib.hid o1
      have y0 := cell_of_row w5 _ 0 _ _ _ o2
      have y1 := cell_of_row w5 _ 1 _ _ _ o2
      have y2 := cell_of_row w5 _ 2 _ _ _ o2
      have y3 := cell_of_row w5 _ 3 _ _ _ o2
      have y4 := cell_of_row w5 _ 4 _ _ _ o2
      have y5 := cell_of_row w5 _ 5 _ _ _ o2
      have y6 := cell_of_row w5 _ 6 _ _ _ o2
      have y7 := cell_of_row w5 _ 7 _ _ _ o2
      have y8 := cell_of_row w5 _ 8 _ _ _ o2
      clear o1 o2
      go_wp2
      refine bodyPost_ret (v := .tuple #[.agg (oDec l).cells.toArray, .int .i64 0]) ?_ rfl ⟨_, rfl, _, by rw [HER.out], Fr.setCells (by simp) [.bool true, .int .i64 (nm l 0 4), .int .i64 (nm l 4 4), .int .i64 (nm l 10 4 - 1), .int .i64 (nm l 18 4 - 1), .int .i64 (nm l 14 4 - 1), .int .i64 (nm l 22 4 - 1), .int .i64 (nm l 8 2), .int .i64 (nm l 26 4 - 1)] 0 _ (HFX.out.trans HV.out), by rw [if_pos HER.out]⟩
      exact results_row Try.results16 _ _ w.heap.size 25 _ _ _ rfl rfl (obj_setCells O1.out [.bool true, .int .i64 (nm l 0 4), .int .i64 (nm l 4 4), .int .i64 (nm l 10 4 - 1), .int .i64 (nm l 18 4 - 1), .int .i64 (nm l 14 4 - 1), .int .i64 (nm l 22 4 - 1), .int .i64 (nm l 8 2), .int .i64 (nm l 26 4 - 1)] rfl) Try.underlying25 rfl infoRo
theorem refGetRo_all (a : Option Addr) (c : Nat) (l : List UInt8) (w : World) (hc : l.length ≤ c) (hb : Bytes w a l) :
    Calls Try.prog 16 #[.slice a l.length c] w fun e w' => ∃ x, e = .returned x ∧ GetRo w l w' x := by
  by_cases h : l.length = 30
  · exact refGetRo_any a c l w h hc hb
  · exact refGetRo_size a c l w h
end Go.Proofs.Ytbhmfbhfofgfaaa
