/- The document's GetProp of version 1. -/
import Derived.Test.YtbhmfbhfofgfaaaOneN
import Derived.Laws.ResultCell
import Derived.Laws.IdiomCopy
import Derived.Deep.CutRange
import Derived.Deep.DeepCutAuto
namespace Go.Proofs.Ytbhmfbhfofgfaaa
open Go.RowKit
attribute [local go_sem ↓] Go.wp_at_zero Go.wp_at_succ
theorem refPutPo_any (ky kd nu bl pv nx : Int) (w : World) :
    Calls Try.prog 23 #[.agg #[.int .i64 ky, .int .i64 kd, .int .i64 nu, .int .i64 bl, .int .i64 pv, .int .i64 nx]] w fun e w' => RefPutP w w' e ⟨ky, kd, nu, bl, pv, nx⟩ := by
  cases h : (inB ky 0 200 && (inB kd 1 9 && (inB pv (-1) 65536 && inB nx (-1) 65536)))
  · exact refPutPo_head ky kd nu bl pv nx w h
  · simp only [Bool.and_eq_true] at h
    exact refPutPo_in ky kd nu bl pv nx w h.1 h.2.1 h.2.2.1 h.2.2.2
theorem RefPutP.get {w w' : World} {e : Ending} {r : PropV} (h : RefPutP w w' e r) : (pFine r = true ∧ ∃ v, e = .returned (.tuple #[v, .int .i64 0]) ∧ Fresh w.heap.size w w' v (pB r)) ∨ (pFine r = false ∧ ∃ v, e = .returned (.tuple #[v, .int .i64 41]) ∧ Fresh w.heap.size w w' v []) := by
  unfold RefPutP at h
  cases hf : pFine r
  · rw [if_neg (by rw [hf]; simp)] at h; exact .inr ⟨rfl, h⟩
  · rw [if_pos hf] at h; exact .inl ⟨rfl, h⟩
theorem refGetPo_size (a : Option Addr) (c : Nat) (l : List UInt8) (w : World) (h : l.length ≠ 19) :
    Calls Try.prog 25 #[.slice a l.length c] w fun e w' => ∃ x, e = .returned x ∧ GetPo w l w' x := by
  have hb : ((l.length : Int) != 19) = true := by rw [bne_iff_ne]; omega
  have H := Lib.hid h; clear h
  go_enter Try.func25, Try.ntmps25
  go_wp2
  exact bodyPost_ret (v := .tuple #[zPo, .int .i64 4]) (by simp [results, Try.results25, go_sem, zPo]) rfl ⟨_, rfl, _, by rw [errPo_size H.out], ((Fr.refl _ _).alloc _).alloc _, by rw [if_neg (by rw [errPo_size H.out]; decide)]⟩
theorem six {w : World} {b T : Nat} {c0 c1 c2 c3 c4 c5 : Value} (h : w.heap[b]? = some (.cells #[c0, c1, c2, c3, c4, c5] T)) :
    w.cell? ⟨b, 0, none⟩ = some c0 ∧ w.cell? ⟨b, 1, none⟩ = some c1 ∧ w.cell? ⟨b, 2, none⟩ = some c2 ∧ w.cell? ⟨b, 3, none⟩ = some c3 ∧ w.cell? ⟨b, 4, none⟩ = some c4 ∧ w.cell? ⟨b, 5, none⟩ = some c5 :=
  ⟨cell_of_row _ _ 0 _ _ _ h, cell_of_row _ _ 1 _ _ _ h, cell_of_row _ _ 2 _ _ _ h, cell_of_row _ _ 3 _ _ _ h, cell_of_row _ _ 4 _ _ _ h, cell_of_row _ _ 5 _ _ _ h⟩
theorem six_fz {w : World} {b T : Nat} {c0 c1 c2 c3 c4 c5 : Value} (h : w.heap[b]? = some (.cells #[c0, c1, c2, c3, c4, c5] T)) :
    w.frozen? ⟨b, 0, none⟩ = false ∧ w.frozen? ⟨b, 1, none⟩ = false ∧ w.frozen? ⟨b, 2, none⟩ = false ∧ w.frozen? ⟨b, 3, none⟩ = false ∧ w.frozen? ⟨b, 4, none⟩ = false ∧ w.frozen? ⟨b, 5, none⟩ = false :=
  ⟨frozen_of_row w b 0 _ _ h, frozen_of_row w b 1 _ _ h, frozen_of_row w b 2 _ _ h, frozen_of_row w b 3 _ _ h, frozen_of_row w b 4 _ _ h, frozen_of_row w b 5 _ _ h⟩
set_option maxRecDepth 100000 in
set_option maxHeartbeats 4000000 in
theorem refGetPo_any (a : Option Addr) (c : Nat) (l : List UInt8) (w : World) (h : l.length = 19) (hc : l.length ≤ c) (hb : Bytes w a l) :
    Calls Try.prog 25 #[.slice a l.length c] w fun e w' => ∃ x, e = .returned x ∧ GetPo w l w' x := by
  have hbb : ((l.length : Int) != 19) = false := by rw [bne_eq_false_iff_eq]; omega
  have HL := Lib.hid h
  have hle : l.length ≤ 100 := by omega
  have HB := Lib.hid hb
  obtain ⟨ab, ao, rfl, _⟩ := hb.at (by omega)
  have n1 := nm_le l 11 4 (by omega)
  have n2 := nm_le l 15 4 (by omega)
  have n3 := nm_le l 7 4 (by omega)
  have n4 := nm_le1 l 2
  have k1 : IntKind.i64.wrap ((nm l 11 4 : Int) - 1) = (nm l 11 4 : Int) - 1 := IntWalk.i64_in _ (by omega)
  have k2 : IntKind.i64.wrap ((nm l 15 4 : Int) - 1) = (nm l 15 4 : Int) - 1 := IntWalk.i64_in _ (by omega)
  have k3 : IntKind.i64.wrap ((nm l 7 4 : Int) - 1) = (nm l 7 4 : Int) - 1 := IntWalk.i64_in _ (by omega)
  have HAT := Lib.hid (fun wd p w hw hd hp hb => at12_any (some ⟨ab, ao, none⟩) c l wd p w (by omega) hc hb hw hd hp)
  have t1 : Wd 1 := by unfold Wd; omega
  have t2 : Wd 2 := by unfold Wd; omega
  have t4 : Wd 4 := by unfold Wd; omega
  have HT := Lib.hid (And.intro t1 (And.intro t2 t4))
  have hpos : 11 ≤ l.length ∧ 8 ≤ c := by omega
  clear hb h t1 t2 t4
  go_enter Try.func25, Try.ntmps25
  go_upto_region 4 with fail
  obtain ⟨wa, hwa⟩ : ∃ wa, wa = (w.alloc (.cells #[.int .i64 0, .int .i64 0, .int .i64 0, .int .i64 0, .int .i64 0, .int .i64 0] 53)).alloc (.cells #[.int .i64 0, .int .i64 0, .int .i64 0, .int .i64 0, .int .i64 0, .int .i64 0] 53) := ⟨_, rfl⟩
  rw [← hwa]
  have hfa : Fr [] w wa := by rw [hwa]; exact ((Fr.refl _ _).alloc _).alloc _
  have hz1 : wa.heap[w.heap.size]? = some (.cells #[.int .i64 0, .int .i64 0, .int .i64 0, .int .i64 0, .int .i64 0, .int .i64 0] 53) := by rw [hwa]; exact heap_alloc2_old w _ _
  have hz2 : wa.heap[w.heap.size + 1]? = some (.cells #[.int .i64 0, .int .i64 0, .int .i64 0, .int .i64 0, .int .i64 0, .int .i64 0] 53) := by rw [hwa]; exact heap_alloc2_new w _ _
  have HFA := Lib.hid hfa
  have HBA := Lib.hid (HB.out.keep hfa)
  have HZ1 := Lib.hid hz1
  have HZ2 := Lib.hid hz2
  clear hwa hfa hz1 hz2
  go_wp2_with fail
  refine (HAT.out 2 0 wa HT.out.2.1 (by omega) (by have := HL.out; omega) HBA.out).mono ?_
  rintro e w' ⟨rfl, rfl⟩
  go_wp2_with fail
  refine (HAT.out 1 2 wa HT.out.1 (by omega) (by have := HL.out; omega) HBA.out).mono ?_
  rintro e w' ⟨rfl, rfl⟩
  go_wp2_with fail
  refine (HAT.out 4 11 wa HT.out.2.2 (by omega) (by have := HL.out; omega) HBA.out).mono ?_
  rintro e w' ⟨rfl, rfl⟩
  go_wp2_with fail
  refine (HAT.out 4 15 wa HT.out.2.2 (by omega) (by have := HL.out; omega) HBA.out).mono ?_
  rintro e w' ⟨rfl, rfl⟩
  go_upto_region 5 with fail
  obtain ⟨wb, hwb⟩ : ∃ wb, wb = wa.alloc (.cells #[.int .i64 (nm l 0 2), .int .i64 (nm l 2 1), .int .i64 0, .int .i64 (-1), .int .i64 (nm l 11 4 - 1), .int .i64 (nm l 15 4 - 1)] 53) := ⟨_, rfl⟩
  have hfb : Fr [] wa wb := by rw [hwb]; exact (Fr.refl _ _).alloc _
  have hob : wb.heap[wa.heap.size]? = some (.cells #[.int .i64 (nm l 0 2), .int .i64 (nm l 2 1), .int .i64 0, .int .i64 (-1), .int .i64 (nm l 11 4 - 1), .int .i64 (nm l 15 4 - 1)] 53) := by rw [hwb]; exact heap_alloc_new wa _
  first | rw [← hwb] | skip
  have HFB := Lib.hid hfb
  have HOB := Lib.hid hob
  have HBB := Lib.hid (HBA.out.keep hfb)
  obtain ⟨x0, x1, x2, x3, x4, x5⟩ := six hob
  obtain ⟨f0, f1, f2, f3, f4, f5⟩ := six_fz hob
  have hlt := (Array.getElem?_eq_some_iff.1 hob).1
  clear hwb hfb hob
  have HZLT := Lib.hid (show w.heap.size + 1 < wa.heap.size from (Array.getElem?_eq_some_iff.1 HZ2.out).1)
  have HABLT := Lib.hid (show ab < wa.heap.size by
    obtain ⟨_, _, e, h5⟩ := HBA.out.at (by have := HL.out; omega)
    cases e
    exact World.block_lt_of_cell? wa _ (h5 0 (by have := HL.out; omega)))
  generalize wa.heap.size = g at HZLT HABLT HOB x0 x1 x2 x3 x4 x5 f0 f1 f2 f3 f4 f5 hlt ⊢
  go_upto_if 26 with fail
  go_cut [] (fun wx => wx.heap[g]? = some (.cells (pDec l).cells.toArray 53) ∧ Fr [g] wb wx)
  case first =>
    by_cases hk : nm l 2 1 ≤ 3
    · have hki : ((nm l 2 1 : Nat) : Int) < 4 := by omega
      have hd : decide (((nm l 2 1 : Nat) : Int) < 4) = true := decide_eq_true hki
      have HDE := Lib.hid (show pDec l = ⟨nm l 0 2, nm l 2 1, sgn (nm l 3 8), -1, (nm l 11 4 : Int) - 1, (nm l 15 4 : Int) - 1⟩ from if_pos hk)
      go_wp2_with fail
      have hnum := val_any (some ⟨ab, ao + 3, none⟩) (c - 3) ((l.drop 3).take 8) wb (by rw [List.length_take]; omega) (HBB.out.sub 3 8 (by have := HL.out; omega))
      rw [show ((l.drop 3).take 8).length = 8 by rw [List.length_take, List.length_drop]; have := HL.out; omega] at hnum
      refine hnum.mono ?_
      rintro e w' ⟨rfl, rfl⟩
      go_wp2_with fail
      go_meet
      refine ⟨?_, (Fr.refl _ _).setCell (by simp) _⟩
      rw [heap_setCell_same wb g 2 _ _ _ HOB.out, HDE.out]
      rw [show sgn (nm l 3 8) = wrap64 (U (be ((l.drop 3).take 8))) from by unfold sgn wrap64; rw [IntKind.wrap_i64, nm_def]]
      rfl
    · have hki : ¬ ((nm l 2 1 : Nat) : Int) < 4 := by omega
      have hd : decide (((nm l 2 1 : Nat) : Int) < 4) = false := decide_eq_false hki
      have HDE := Lib.hid (show pDec l = ⟨nm l 0 2, nm l 2 1, 0, (nm l 7 4 : Int) - 1, (nm l 11 4 : Int) - 1, (nm l 15 4 : Int) - 1⟩ from if_neg hk)
      go_wp2_with fail
      refine (HAT.out 4 7 wb HT.out.2.2 (by omega) (by have := HL.out; omega) HBB.out).mono ?_
      rintro e w' ⟨rfl, rfl⟩
      go_wp2_with fail
      go_meet
      refine ⟨?_, (Fr.refl _ _).setCell (by simp) _⟩
      rw [heap_setCell_same wb g 3 _ _ _ HOB.out, HDE.out]
      rfl
  case rest =>
    obtain ⟨hrow, hfr⟩ := hcut
    have HPB := Lib.hid (fun hf => pB_pDec (l := l) HL.out hf)
    have HPOK := Lib.hid (show pRB l = !(pFine (pDec l) && (decide (nm l 2 1 ≤ 3) || decide (nm l 3 4 = 0))) from pRB_ok l)
    have HDEC : Hid (∃ r, r = pDec l) := Lib.hid ⟨_, rfl⟩
    obtain ⟨r, hr⟩ := HDEC.out
    rw [← hr] at hrow HPB HPOK
    have HR := Lib.hid hr
    clear hr HDEC
    obtain ⟨ky, kd, nu, bl, pv, nx⟩ := r
    have hrow2 : wc.heap[g]? = some (.cells #[.int .i64 ky, .int .i64 kd, .int .i64 nu, .int .i64 bl, .int .i64 pv, .int .i64 nx] 53) := hrow
    have HROW := Lib.hid hrow2
    have HZ1C := Lib.hid (hfr.obj (HFB.out.obj HZ1.out (by simp)) (by simp; have := HZLT.out; omega))
    have HZ2C := Lib.hid (hfr.obj (HFB.out.obj HZ2.out (by simp)) (by simp; have := HZLT.out; omega))
    have HFC := Lib.hid ((HFA.out.trans HFB.out).next hfr (by intro i hi hlt; simp at hi; have := HZLT.out; omega))
    have HBC := Lib.hid (HBB.out.fr hfr (.inr fun ad e => by cases e; simp; have := HABLT.out; omega))
    clear x0 x1 x2 x3 x4 x5 f0 f1 f2 f3 f4 f5 hrow hfr
    obtain ⟨x0, x1, x2, x3, x4, x5⟩ := six hrow2
    clear hrow2
    go_wp2_with fail
    refine (refPutPo_any ky kd nu bl pv nx wc).mono ?_
    intro e w5 hp
    clear x0 x1 x2 x3 x4 x5
    rcases hp.get with ⟨hf, v, rfl, hv⟩ | ⟨hf, v, rfl, hv⟩
    · have HFIN := Lib.hid hf
      have hq := HPB.out hf
      have HV := Lib.hid hv.fr
      have HF5 := Lib.hid (HFC.out.trans hv.fr)
      obtain ⟨g5, cap, rfl, hg5, hlt5, hbv, hfv⟩ := hv.bytes
      have o1 := HV.out.obj HZ1C.out (by simp)
      have O1 := Lib.hid o1
      have q1 := conv_any (some ⟨g5, 0, none⟩) cap _ w5 (fun h => by cases h) hbv
      have q2 := conv_any (some ⟨ab, ao, none⟩) c l w5 (fun h => by cases h) (HBC.out.keep HV.out)
      clear hp hv hg5 hlt5 hbv hfv
      generalize pB ⟨ky, kd, nu, bl, pv, nx⟩ = L at hq q1
      cases hB : (decide (nm l 2 1 ≤ 3) || decide (nm l 3 4 = 0))
      · rw [hB] at hq
        have hq2 : (L != l) = true := by unfold bne; rw [hq]; rfl
        have HER := Lib.hid (show errPo l = 41 from errPo_bad HL.out (by rw [HPOK.out, hB, Bool.and_false]; rfl))
        obtain ⟨x0, x1, x2, x3, x4, x5⟩ := six (HV.out.obj HZ2C.out (by simp))
        obtain ⟨f0, f1, f2, f3, f4, f5⟩ := six_fz o1
        obtain ⟨y0, y1, y2, y3, y4, y5⟩ := six o1
        clear o1 hB hf
        go_wp2
        refine bodyPost_ret (v := .tuple #[zPo, .int .i64 41]) ?_ rfl ⟨_, rfl, _, by rw [HER.out], Fr.setCells (by simp) [.int .i64 0, .int .i64 0, .int .i64 0, .int .i64 0, .int .i64 0, .int .i64 0] 0 _ HF5.out, by rw [if_neg (by rw [HER.out]; decide)]⟩
        exact results_row Try.results25 _ _ w.heap.size 53 _ _ _ rfl rfl (obj_setCells O1.out [.int .i64 0, .int .i64 0, .int .i64 0, .int .i64 0, .int .i64 0, .int .i64 0] rfl) Try.underlying53 rfl infoPo
      · rw [hB] at hq
        have hq2 : (L != l) = false := by unfold bne; rw [hq]; rfl
        have HER := Lib.hid (show errPo l = 0 from errPo_ok HL.out (by rw [HPOK.out, hB, Bool.and_true, hf]; rfl))
        obtain ⟨x0, x1, x2, x3, x4, x5⟩ := six (HV.out.obj HROW.out (by simp))
        obtain ⟨f0, f1, f2, f3, f4, f5⟩ := six_fz o1
        obtain ⟨y0, y1, y2, y3, y4, y5⟩ := six o1
        clear o1 hB hf
        go_wp2
        refine bodyPost_ret (v := .tuple #[.agg #[.int .i64 ky, .int .i64 kd, .int .i64 nu, .int .i64 bl, .int .i64 pv, .int .i64 nx], .int .i64 0]) ?_ rfl ⟨_, rfl, _, by rw [HER.out], Fr.setCells (by simp) [.int .i64 ky, .int .i64 kd, .int .i64 nu, .int .i64 bl, .int .i64 pv, .int .i64 nx] 0 _ HF5.out, by rw [if_pos HER.out, ← HR.out]; rfl⟩
        exact results_row Try.results25 _ _ w.heap.size 53 _ _ _ rfl rfl (obj_setCells O1.out [.int .i64 ky, .int .i64 kd, .int .i64 nu, .int .i64 bl, .int .i64 pv, .int .i64 nx] rfl) Try.underlying53 rfl infoPo
    · have HFIN := Lib.hid hf
      have HV := Lib.hid hv.fr
      have HF5 := Lib.hid (HFC.out.trans hv.fr)
      have HER := Lib.hid (show errPo l = 41 from errPo_bad HL.out (by rw [HPOK.out, hf]; rfl))
      have o1 := HV.out.obj HZ1C.out (by simp)
      have O1 := Lib.hid o1
      obtain ⟨x0, x1, x2, x3, x4, x5⟩ := six (HV.out.obj HZ2C.out (by simp))
      obtain ⟨f0, f1, f2, f3, f4, f5⟩ := six_fz o1
      obtain ⟨y0, y1, y2, y3, y4, y5⟩ := six o1
      clear hp hv o1 hf
      go_wp2
      refine bodyPost_ret (v := .tuple #[zPo, .int .i64 41]) ?_ rfl ⟨_, rfl, _, by rw [HER.out], Fr.setCells (by simp) [.int .i64 0, .int .i64 0, .int .i64 0, .int .i64 0, .int .i64 0, .int .i64 0] 0 _ HF5.out, by rw [if_neg (by rw [HER.out]; decide)]⟩
      exact results_row Try.results25 _ _ w.heap.size 53 _ _ _ rfl rfl (obj_setCells O1.out [.int .i64 0, .int .i64 0, .int .i64 0, .int .i64 0, .int .i64 0, .int .i64 0] rfl) Try.underlying53 rfl infoPo
theorem refGetPo_all (a : Option Addr) (c : Nat) (l : List UInt8) (w : World) (hc : l.length ≤ c) (hb : Bytes w a l) :
    Calls Try.prog 25 #[.slice a l.length c] w fun e w' => ∃ x, e = .returned x ∧ GetPo w l w' x := by
  by_cases h : l.length = 19
  · exact refGetPo_any a c l w h hc hb
  · exact refGetPo_size a c l w h
end Go.Proofs.Ytbhmfbhfofgfaaa
