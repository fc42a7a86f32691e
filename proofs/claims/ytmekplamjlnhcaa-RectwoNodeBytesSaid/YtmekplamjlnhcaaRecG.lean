/- The walk of the document's GetGroup. -/
import Derived.Test.YtmekplamjlnhcaaRecF
namespace Go.Proofs.Ytmekplamjlnhcaa
open Go.RowKit

theorem take_join (l : List UInt8) (q n : Nat) : l.take q ++ (l.drop q).take n = l.take (q + n) := by rw [List.take_add]
theorem ptr_back (n : Nat) : ((n : Int) - 1 + 1).toNat = n := by omega
theorem gB_gDec (l : List UInt8) (h : l.length = 22) : gB (gDec l) = l := by
  unfold gB gDec ptrs
  simp only [List.flatMap_cons, List.flatMap_nil, List.append_nil, ptr_back, Int.toNat_natCast]
  rw [by8_nm l 0 2 (by omega), by8_nm l 2 4 (by omega), by8_nm l 6 4 (by omega), by8_nm l 10 4 (by omega), by8_nm l 14 4 (by omega), by8_nm l 18 4 (by omega)]
  rw [List.drop_zero, ← List.append_assoc, ← List.append_assoc, ← List.append_assoc, take_join, take_join, take_join, take_join, take_join]
  exact List.take_of_length_le (by omega)
theorem refGetGroup_size (a : Option Addr) (c : Nat) (l : List UInt8) (w : World) (h : l.length ≠ 22) :
    Calls Try.prog 23 #[.slice a l.length c] w fun e w' => e = .returned (.tuple #[gZero, .int .i64 4]) ∧ Fr [] w w' := by
  have hb : ((l.length : Int) != 22) = true := by rw [bne_iff_ne]; omega
  have H := Lib.hid h; clear h
  go_enter Try.func23, Try.ntmps23
  go_wp2
  exact bodyPost_ret (v := .tuple #[gZero, .int .i64 4]) (by simp [results, Try.results23, go_sem, gZero]) rfl ⟨rfl, ((Fr.refl _ _).alloc _).alloc _⟩
set_option maxRecDepth 100000 in
set_option maxHeartbeats 1600000 in
theorem refGetGroup_any (a : Option Addr) (c : Nat) (l : List UInt8) (w : World) (h : l.length = 22) (hc : l.length ≤ c) (hb : Bytes w a l) :
    Calls Try.prog 23 #[.slice a l.length c] w fun e w' => e = .returned (gGot l) ∧ Fr [] w w' := by
  have hbb : ((l.length : Int) != 22) = false := by rw [bne_eq_false_iff_eq]; omega
  have HL := Lib.hid h
  have hle : l.length ≤ 100 := by omega
  have HB := Lib.hid hb
  have b1 := nm_le l 0 2 (by omega)
  have b2 := nm_le l 2 4 (by omega)
  have b3 := nm_le l 6 4 (by omega)
  have b4 := nm_le l 10 4 (by omega)
  have b5 := nm_le l 14 4 (by omega)
  have b6 := nm_le l 18 4 (by omega)
  have A1 := fun w hb => Lib.hid (at15_any a c l 2 0 w (by omega) hc hb (by unfold Wd; omega) (by omega) (by omega))
  have A2 := fun w hb => Lib.hid (at15_any a c l 4 2 w (by omega) hc hb (by unfold Wd; omega) (by omega) (by omega))
  have A3 := fun w hb => Lib.hid (at15_any a c l 4 6 w (by omega) hc hb (by unfold Wd; omega) (by omega) (by omega))
  have A4 := fun w hb => Lib.hid (at15_any a c l 4 10 w (by omega) hc hb (by unfold Wd; omega) (by omega) (by omega))
  have A5 := fun w hb => Lib.hid (at15_any a c l 4 14 w (by omega) hc hb (by unfold Wd; omega) (by omega) (by omega))
  have A6 := fun w hb => Lib.hid (at15_any a c l 4 18 w (by omega) hc hb (by unfold Wd; omega) (by omega) (by omega))
  clear hb h
  go_enter Try.func23, Try.ntmps23
  go_wp2_with fail
  obtain ⟨wa, hwa⟩ : ∃ wa, wa = (w.alloc (.cells #[.bool false, .int .i64 0, .int .i64 0, .int .i64 0, .int .i64 0, .int .i64 0, .int .i64 0] 44)).alloc (.cells #[.bool false, .int .i64 0, .int .i64 0, .int .i64 0, .int .i64 0, .int .i64 0, .int .i64 0] 44) := ⟨_, rfl⟩
  rw [← hwa]
  have hfa : Fr [] w wa := by rw [hwa]; exact ((Fr.refl _ _).alloc _).alloc _
  have hz1 : wa.heap[w.heap.size]? = some (.cells #[.bool false, .int .i64 0, .int .i64 0, .int .i64 0, .int .i64 0, .int .i64 0, .int .i64 0] 44) := by rw [hwa]; exact heap_alloc2_old w _ _
  have hz2 : wa.heap[w.heap.size + 1]? = some (.cells #[.bool false, .int .i64 0, .int .i64 0, .int .i64 0, .int .i64 0, .int .i64 0, .int .i64 0] 44) := by rw [hwa]; exact heap_alloc2_new w _ _
  clear hwa
  have HFA := Lib.hid hfa
  have HZ1 := Lib.hid hz1
  have HZ2 := Lib.hid hz2
  have hba := HB.out.keep hfa
  clear hz1 hz2 hfa
  refine (A1 wa hba).out.mono ?_
  rintro e w1 ⟨rfl, rfl⟩
  go_wp2_with fail
  refine (A2 wa hba).out.mono ?_
  rintro e w1 ⟨rfl, rfl⟩
  go_wp2_with fail
  refine (A3 wa hba).out.mono ?_
  rintro e w1 ⟨rfl, rfl⟩
  go_wp2_with fail
  refine (A4 wa hba).out.mono ?_
  rintro e w1 ⟨rfl, rfl⟩
  go_wp2_with fail
  refine (A5 wa hba).out.mono ?_
  rintro e w1 ⟨rfl, rfl⟩
  go_wp2_with fail
  refine (A6 wa hba).out.mono ?_
  rintro e w1 ⟨rfl, rfl⟩
  clear A1 A2 A3 A4 A5 A6
  go_wp2_with fail
  obtain ⟨wb, hwb⟩ : ∃ wb, wb = wa.alloc (.cells #[.bool true, .int .i64 (nm l 0 2), .int .i64 (nm l 2 4), .int .i64 (nm l 6 4 - 1), .int .i64 (nm l 10 4 - 1), .int .i64 (nm l 14 4 - 1), .int .i64 (nm l 18 4 - 1)] 44) := ⟨_, rfl⟩
  rw [← hwb]
  have hfb : Fr [] wa wb := by rw [hwb]; exact (Fr.refl _ _).alloc _
  have hg5 : wb.heap[wa.heap.size]? = some (.cells #[.bool true, .int .i64 (nm l 0 2), .int .i64 (nm l 2 4), .int .i64 (nm l 6 4 - 1), .int .i64 (nm l 10 4 - 1), .int .i64 (nm l 14 4 - 1), .int .i64 (nm l 18 4 - 1)] 44) := by rw [hwb]; exact heap_alloc_new wa _
  clear hwb b1 b2 b3 b4 b5 b6 hba
  have HFB := Lib.hid hfb
  have HG5 := Lib.hid hg5
  clear hfb hg5
  cases hfin : gFine (gDec l)
  · have HFIN := Lib.hid hfin
    refine (refPutGroup_no true (nm l 0 2) (nm l 2 4) (nm l 6 4 - 1) (nm l 10 4 - 1) (nm l 14 4 - 1) (nm l 18 4 - 1) wb hfin).mono ?_
    clear hfin
    rintro e w5 ⟨v, rfl, hv⟩
    have HV := Lib.hid hv.fr
    clear hv
    have o1 := HV.out.obj (HFB.out.obj HZ1.out (by simp)) (by simp)
    have o2 := HV.out.obj (HFB.out.obj HZ2.out (by simp)) (by simp)
    have z0 := cell_of_row w5 _ 0 _ _ _ o1
    have f0 := frozen_of_row w5 _ 0 _ _ o1
    have y0 := cell_of_row w5 _ 0 _ _ _ o2
    have z1 := cell_of_row w5 _ 1 _ _ _ o1
    have f1 := frozen_of_row w5 _ 1 _ _ o1
    have y1 := cell_of_row w5 _ 1 _ _ _ o2
    have z2 := cell_of_row w5 _ 2 _ _ _ o1
    have f2 := frozen_of_row w5 _ 2 _ _ o1
    have y2 := cell_of_row w5 _ 2 _ _ _ o2
    have z3 := cell_of_row w5 _ 3 _ _ _ o1
    have f3 := frozen_of_row w5 _ 3 _ _ o1
    have y3 := cell_of_row w5 _ 3 _ _ _ o2
    have z4 := cell_of_row w5 _ 4 _ _ _ o1
    have f4 := frozen_of_row w5 _ 4 _ _ o1
    have y4 := cell_of_row w5 _ 4 _ _ _ o2
    have z5 := cell_of_row w5 _ 5 _ _ _ o1
    have f5 := frozen_of_row w5 _ 5 _ _ o1
    have y5 := cell_of_row w5 _ 5 _ _ _ o2
    have z6 := cell_of_row w5 _ 6 _ _ _ o1
    have f6 := frozen_of_row w5 _ 6 _ _ o1
    have y6 := cell_of_row w5 _ 6 _ _ _ o2
    have O1 := Lib.hid o1
    clear o1 o2
    go_wp2
    refine bodyPost_ret (v := gGot l) ?_ rfl ⟨rfl, Fr.setCells (by simp) [.bool false, .int .i64 0, .int .i64 0, .int .i64 0, .int .i64 0, .int .i64 0, .int .i64 0] 0 _ ((HFA.out.trans HFB.out).trans HV.out)⟩
    rw [gGot_no HFIN.out]
    exact results_row Try.results23 _ _ w.heap.size 44 _ _ _ rfl rfl (obj_setCells O1.out [.bool false, .int .i64 0, .int .i64 0, .int .i64 0, .int .i64 0, .int .i64 0, .int .i64 0] rfl) Try.underlying44 rfl infoG
  · have HFIN := Lib.hid hfin
    refine (refPutGroup_yes true (nm l 0 2) (nm l 2 4) (nm l 6 4 - 1) (nm l 10 4 - 1) (nm l 14 4 - 1) (nm l 18 4 - 1) wb hfin).mono ?_
    clear hfin
    rintro e w5 ⟨v, rfl, hv⟩
    rw [show gB ⟨true, (nm l 0 2 : Int), nm l 2 4, nm l 6 4 - 1, nm l 10 4 - 1, nm l 14 4 - 1, nm l 18 4 - 1⟩ = l from gB_gDec l HL.out] at hv
    obtain ⟨g, cap, rfl, hg, hlt, hbv, hfv⟩ := hv.bytes
    have HV := Lib.hid hfv
    have q1 := conv_any (some ⟨g, 0, none⟩) cap l w5 (fun h => by cases h) hbv
    have q2 := conv_any a c l w5 (fun e => by subst e; obtain ⟨_, _, h, _⟩ := HB.out.at (by have := HL.out; omega); cases h) (((HB.out.keep HFA.out).keep HFB.out).keep HV.out)
    clear hv hbv hfv hg hlt
    have o1 := HV.out.obj (HFB.out.obj HZ1.out (by simp)) (by simp)
    have o2 := HV.out.obj HG5.out (by simp)
    have z0 := cell_of_row w5 _ 0 _ _ _ o1
    have f0 := frozen_of_row w5 _ 0 _ _ o1
    have y0 := cell_of_row w5 _ 0 _ _ _ o2
    have z1 := cell_of_row w5 _ 1 _ _ _ o1
    have f1 := frozen_of_row w5 _ 1 _ _ o1
    have y1 := cell_of_row w5 _ 1 _ _ _ o2
    have z2 := cell_of_row w5 _ 2 _ _ _ o1
    have f2 := frozen_of_row w5 _ 2 _ _ o1
    have y2 := cell_of_row w5 _ 2 _ _ _ o2
    have z3 := cell_of_row w5 _ 3 _ _ _ o1
    have f3 := frozen_of_row w5 _ 3 _ _ o1
    have y3 := cell_of_row w5 _ 3 _ _ _ o2
    have z4 := cell_of_row w5 _ 4 _ _ _ o1
    have f4 := frozen_of_row w5 _ 4 _ _ o1
    have y4 := cell_of_row w5 _ 4 _ _ _ o2
    have z5 := cell_of_row w5 _ 5 _ _ _ o1
    have f5 := frozen_of_row w5 _ 5 _ _ o1
    have y5 := cell_of_row w5 _ 5 _ _ _ o2
    have z6 := cell_of_row w5 _ 6 _ _ _ o1
    have f6 := frozen_of_row w5 _ 6 _ _ o1
    have y6 := cell_of_row w5 _ 6 _ _ _ o2
    have O1 := Lib.hid o1
    clear o1 o2
    go_wp2
    refine bodyPost_ret (v := gGot l) ?_ rfl ⟨rfl, Fr.setCells (by simp) [.bool true, .int .i64 (nm l 0 2), .int .i64 (nm l 2 4), .int .i64 (nm l 6 4 - 1), .int .i64 (nm l 10 4 - 1), .int .i64 (nm l 14 4 - 1), .int .i64 (nm l 18 4 - 1)] 0 _ ((HFA.out.trans HFB.out).trans HV.out)⟩
    rw [gGot_yes HFIN.out]
    exact results_row Try.results23 _ _ w.heap.size 44 _ _ _ rfl rfl (obj_setCells O1.out [.bool true, .int .i64 (nm l 0 2), .int .i64 (nm l 2 4), .int .i64 (nm l 6 4 - 1), .int .i64 (nm l 10 4 - 1), .int .i64 (nm l 14 4 - 1), .int .i64 (nm l 18 4 - 1)] rfl) Try.underlying44 rfl infoG
end Go.Proofs.Ytmekplamjlnhcaa
