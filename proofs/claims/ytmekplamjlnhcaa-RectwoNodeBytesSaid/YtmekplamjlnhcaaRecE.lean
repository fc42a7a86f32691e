/- The walk of GetGroup. -/
import Derived.Test.YtmekplamjlnhcaaRecD
import Derived.Outline
namespace Go.Proofs.Ytmekplamjlnhcaa
open Go.RowKit

theorem ptr_cells (w : World) (s b : Nat) (os : List Nat) (T : Nat) (hs : s = w.heap.size) : ∀ k, k < os.length → (w.alloc (.cells ((os.map fun o => Value.pointer (some ⟨b, o, none⟩)).toArray) T)).cell? ⟨s, k, none⟩ = some (.pointer (some ⟨b, os.getD k 0, none⟩)) := by
  intro k hk
  subst hs
  rw [cell_of_row _ _ k _ T _ (heap_alloc_new w _), List.getElem?_toArray]
  simp [List.getD, hk]
theorem wrap_nm (l : List UInt8) (q wd : Nat) (h : wd ≤ 4) : IntKind.i64.wrap (nm l q wd : Int) = (nm l q wd : Int) := by
  have := nm_le l q wd h
  rw [← U_lt _ (show nm l q wd < 18446744073709551616 by omega), U_int _ (by omega), U_lt _ (by omega)]
theorem infoG : (Try.prog.info? 44).map (·.size) = some 7 := by kernel_rfl
def gZero : Value := .agg #[.bool false, .int .i64 0, .int .i64 0, .int .i64 0, .int .i64 0, .int .i64 0, .int .i64 0]
def GroupV.val (g : GroupV) : Value := .agg #[.bool g.live, .int .i64 g.ty, .int .i64 g.ow, .int .i64 g.out, .int .i64 g.inn, .int .i64 g.lp, .int .i64 g.nx]
/-- the group that bytes are -/
def gDec (l : List UInt8) : GroupV := ⟨true, nm l 0 2, nm l 2 4, nm l 6 4 - 1, nm l 10 4 - 1, nm l 14 4 - 1, nm l 18 4 - 1⟩
/-- what a reading of 22 bytes gives -/
def gGot (l : List UInt8) : Value := .tuple (if gFine (gDec l) then #[(gDec l).val, .int .i64 0] else #[gZero, .int .i64 41])
theorem gGot_yes {l : List UInt8} (h : gFine (gDec l) = true) : gGot l = .tuple #[(gDec l).val, .int .i64 0] := by unfold gGot; rw [h]; rfl
theorem gGot_no {l : List UInt8} (h : gFine (gDec l) = false) : gGot l = .tuple #[gZero, .int .i64 41] := by unfold gGot; rw [h]; rfl
theorem GetGroup_size (a : Option Addr) (c : Nat) (l : List UInt8) (w : World) (h : l.length ≠ 22) :
    Calls Try.prog 22 #[.slice a l.length c] w fun e w' => e = .returned (.tuple #[gZero, .int .i64 4]) ∧ Fr [] w w' := by
  have hb : ((l.length : Int) != 22) = true := by rw [bne_iff_ne]; omega
  have H := Lib.hid h; clear h
  go_enter Try.func22, Try.ntmps22
  go_wp2
  exact bodyPost_ret (v := .tuple #[gZero, .int .i64 4]) (by simp [results, Try.results22, go_sem, gZero]) rfl ⟨rfl, (Fr.refl _ _).alloc _⟩
set_option maxRecDepth 100000 in
set_option maxHeartbeats 800000 in
theorem GetGroup_any (a : Option Addr) (c : Nat) (l : List UInt8) (w : World) (h : l.length = 22) (hb : Bytes w a l) :
    Calls Try.prog 22 #[.slice a l.length c] w fun e w' => e = .returned (gGot l) ∧ Fr [] w w' := by
  have hbb : ((l.length : Int) != 22) = false := by rw [bne_eq_false_iff_eq]; omega
  have HL := Lib.hid h
  have hle : l.length ≤ 100 := by omega
  have HB := Lib.hid hb
  clear hb h
  go_enter Try.func22, Try.ntmps22
  go_wp2_with fail
  refine (NewR a c l _ (by omega) (by have := HL.out; omega) (HB.out.keep ((Fr.refl _ _).alloc _))).mono ?_
  rintro e w1 ⟨p, g, rfl, hr, hg, hgp, hf⟩
  have HR := Lib.hid hr
  have HF := Lib.hid hf
  have hsz := hf.size
  clear hr hf
  go_wp2_with fail
  refine (NumR w1 p g l 0 2 HR.out (by omega) (by unfold Wd; omega) (by omega) (by have := HL.out; omega)).mono ?_
  rintro e w2 ⟨rfl, hr, hf⟩
  have HR2 := Lib.hid hr
  have HF2 := Lib.hid hf
  have hi1 := wrap_nm l 0 2 (by omega)
  clear hr hf
  go_wp2_with fail
  refine (NumR w2 p g l _ 4 HR2.out (by omega) (by unfold Wd; omega) (by omega) (by have := HL.out; omega)).mono ?_
  rintro e w3 ⟨rfl, hr, hf⟩
  have HR3 := Lib.hid hr
  have HF3 := Lib.hid hf
  have hi2 := wrap_nm l 2 4 (by omega)
  clear hr hf
  go_wp2_with fail
  have hz0 : (w.alloc (.cells #[.bool false, .int .i64 0, .int .i64 0, .int .i64 0, .int .i64 0, .int .i64 0, .int .i64 0] 44)).heap[w.heap.size]? = some (.cells #[.bool false, .int .i64 0, .int .i64 0, .int .i64 0, .int .i64 0, .int .i64 0, .int .i64 0] 44) := heap_alloc_new w _
  have HZ3 := Lib.hid (HF3.out.obj (HF2.out.obj (HF.out.obj hz0 (by simp)) (by simp at hg; simp; omega)) (by simp at hg; simp; omega))
  have HFW := Lib.hid ((((Fr.refl [] w).alloc _).trans HF.out).next (HF2.out.trans HF3.out) (by intro i hi hlt; simp at hi; simp at hg; omega))
  have hlt3 := HR3.out.lt
  have hgw : w.heap.size < g := by simp at hg; omega
  clear hz0 hg
  refine (getR _ p g w3.heap.size (w3.heap.size + 1) 4 44 l _ [.bool true, .int .i64 (nm l 0 2), .int .i64 (nm l 2 4), .int .i64 0, .int .i64 0, .int .i64 0, .int .i64 0] [3, 4, 5, 6] (HR3.out.fr (((Fr.refl [] w3).alloc _).alloc _) (by simp) (by simp)) (by omega) (by have := HL.out; simp; omega)
    (((Fr.refl [] _).alloc _).obj (heap_alloc_new w3 _) (by simp)) (by simp) (ptr_cells _ _ _ [3, 4, 5, 6] _ (by simp)) (by omega) (by omega) (by omega) (by omega)).mono ?_
  rintro e w4 ⟨rfl, hr4, hob, hf4⟩
  have hob4 : w4.heap[w3.heap.size]? = some (.cells #[.bool true, .int .i64 (nm l 0 2), .int .i64 (nm l 2 4), .int .i64 (nm l 6 4 - 1), .int .i64 (nm l 10 4 - 1), .int .i64 (nm l 14 4 - 1), .int .i64 (nm l 18 4 - 1)] 44) := hob
  have HZ4 := Lib.hid (hf4.obj (((Fr.refl [] w3).alloc _).alloc _ |>.obj HZ3.out (by simp)) (by have := HFW.out.size; simp; omega))
  have HF4 := Lib.hid (HFW.out.next (((Fr.refl [p, w3.heap.size] w3).alloc _).alloc _ |>.trans hf4) (by intro i hi hlt; have := HFW.out.size; simp at hi; omega))
  have x0 := cell_of_row w4 _ 0 _ _ _ hob4
  have x1 := cell_of_row w4 _ 1 _ _ _ hob4
  have x2 := cell_of_row w4 _ 2 _ _ _ hob4
  have x3 := cell_of_row w4 _ 3 _ _ _ hob4
  have x4 := cell_of_row w4 _ 4 _ _ _ hob4
  have x5 := cell_of_row w4 _ 5 _ _ _ hob4
  have x6 := cell_of_row w4 _ 6 _ _ _ hob4
  have HOB := Lib.hid hob4
  clear hr4 hob hf4 hob4
  go_wp2_with fail
  refine (groupFine_any true (nm l 0 2) (nm l 2 4) (nm l 6 4 - 1) (nm l 10 4 - 1) (nm l 14 4 - 1) (nm l 18 4 - 1) w4).mono ?_
  rintro e w5 ⟨rfl, hf5⟩
  have HZ5 := hf5.obj HZ4.out (by simp)
  have z0 := cell_of_row w5 _ 0 _ _ _ HZ5
  have z1 := cell_of_row w5 _ 1 _ _ _ HZ5
  have z2 := cell_of_row w5 _ 2 _ _ _ HZ5
  have z3 := cell_of_row w5 _ 3 _ _ _ HZ5
  have z4 := cell_of_row w5 _ 4 _ _ _ HZ5
  have z5 := cell_of_row w5 _ 5 _ _ _ HZ5
  have z6 := cell_of_row w5 _ 6 _ _ _ HZ5
  have zf0 := frozen_of_row w5 _ 0 _ _ HZ5
  have zf1 := frozen_of_row w5 _ 1 _ _ HZ5
  have zf2 := frozen_of_row w5 _ 2 _ _ HZ5
  have zf3 := frozen_of_row w5 _ 3 _ _ HZ5
  have zf4 := frozen_of_row w5 _ 4 _ _ HZ5
  have zf5 := frozen_of_row w5 _ 5 _ _ HZ5
  have zf6 := frozen_of_row w5 _ 6 _ _ HZ5
  have HOB5 := hf5.obj HOB.out (by simp)
  have y0 := cell_of_row w5 _ 0 _ _ _ HOB5
  have y1 := cell_of_row w5 _ 1 _ _ _ HOB5
  have y2 := cell_of_row w5 _ 2 _ _ _ HOB5
  have y3 := cell_of_row w5 _ 3 _ _ _ HOB5
  have y4 := cell_of_row w5 _ 4 _ _ _ HOB5
  have y5 := cell_of_row w5 _ 5 _ _ _ HOB5
  have y6 := cell_of_row w5 _ 6 _ _ _ HOB5
  have HZZ := Lib.hid HZ5
  have HFF := Lib.hid (HF4.out.trans hf5)
  clear HZ5 HOB5 hf5 x0 x1 x2 x3 x4 x5 x6 HZ4 HF4 HOB
  cases hfin : gFine (gDec l)
  · rw [show gFine ⟨true, (nm l 0 2 : Int), nm l 2 4, nm l 6 4 - 1, nm l 10 4 - 1, nm l 14 4 - 1, nm l 18 4 - 1⟩ = false from hfin]
    have HFIN := Lib.hid hfin
    clear hfin
    go_wp2
    refine bodyPost_ret (v := gGot l) ?_ rfl ⟨rfl, Fr.setCells (by simp) [.bool false, .int .i64 0, .int .i64 0, .int .i64 0, .int .i64 0, .int .i64 0, .int .i64 0] 0 _ HFF.out⟩
    rw [gGot_no HFIN.out]
    exact results_row Try.results22 _ _ w.heap.size 44 _ _ _ rfl rfl (obj_setCells HZZ.out [.bool false, .int .i64 0, .int .i64 0, .int .i64 0, .int .i64 0, .int .i64 0, .int .i64 0] rfl) Try.underlying44 rfl infoG
  · rw [show gFine ⟨true, (nm l 0 2 : Int), nm l 2 4, nm l 6 4 - 1, nm l 10 4 - 1, nm l 14 4 - 1, nm l 18 4 - 1⟩ = true from hfin]
    have HFIN := Lib.hid hfin
    clear hfin
    go_wp2
    refine bodyPost_ret (v := gGot l) ?_ rfl ⟨rfl, Fr.setCells (by simp) [.bool true, .int .i64 (nm l 0 2), .int .i64 (nm l 2 4), .int .i64 (nm l 6 4 - 1), .int .i64 (nm l 10 4 - 1), .int .i64 (nm l 14 4 - 1), .int .i64 (nm l 18 4 - 1)] 0 _ HFF.out⟩
    rw [gGot_yes HFIN.out]
    exact results_row Try.results22 _ _ w.heap.size 44 _ _ _ rfl rfl (obj_setCells HZZ.out [.bool true, .int .i64 (nm l 0 2), .int .i64 (nm l 2 4), .int .i64 (nm l 6 4 - 1), .int .i64 (nm l 10 4 - 1), .int .i64 (nm l 14 4 - 1), .int .i64 (nm l 18 4 - 1)] rfl) Try.underlying44 rfl infoG
end Go.Proofs.Ytmekplamjlnhcaa
