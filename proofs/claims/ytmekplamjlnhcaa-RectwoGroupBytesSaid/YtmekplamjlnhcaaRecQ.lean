/- The walk of the law RectwoGroupBytes. -/
import Derived.Test.YtmekplamjlnhcaaRecP
namespace Go.Proofs.Ytmekplamjlnhcaa
open Go.RowKit
attribute [local go_sem ↓] Go.wp_at_zero Go.wp_at_succ
set_option maxHeartbeats 1600000 in
set_option maxRecDepth 100000 in
theorem rectwoGroupBytes_walk (a : Option Addr) (c : Nat) (l : List UInt8) (w : World) (hl : l.length ≤ 140737488351300) (hc : l.length ≤ c) (hno : a = none → c = 0) (hb : Bytes w a l) :
    Calls Try.prog 7 #[.slice a l.length c] w fun e w' => e = .returned (.bool true) ∧ Fr [] w w' := by
  have HB := Lib.hid hb
  have HNO := Lib.hid hno
  clear hb hno
  go_enter Try.func7, Try.ntmps7
  go_wp2_with fail
  refine (speaks15 w).mono ?_
  rintro e w1 ⟨rfl, hf1⟩
  have HF1 := Lib.hid hf1
  clear hf1
  go_wp2_with fail
  refine (clone_any a c l w1 hl HNO.out (HB.out.keep HF1.out)).mono ?_
  rintro e w2 ⟨v, rfl, hv⟩
  obtain ⟨g, cap, rfl, _, _, hbv, _⟩ := hv.bytes
  have HF2 := Lib.hid (HF1.out.trans hv.fr)
  have HV2 := Lib.hid hbv
  clear hv hbv
  by_cases h22 : l.length = 22
  · have HL := Lib.hid h22
    clear h22
    cases hfin : gFine (gDec l)
    · have hgot : gGot l = .tuple #[.agg #[.bool false, .int .i64 0, .int .i64 0, .int .i64 0, .int .i64 0, .int .i64 0, .int .i64 0], .int .i64 41] := gGot_no hfin
      have HGT := Lib.hid hgot
      clear hfin hgot
      go_wp2_with fail
      refine (GetGroup_any (some ⟨g, 0, none⟩) cap l w2 HL.out HV2.out).mono ?_
      rintro e w3 ⟨rfl, hf3⟩
      rw [HGT.out]
      have HF3 := Lib.hid (HF2.out.trans hf3)
      clear hf3
      go_wp2_with fail
      refine (refGetGroup_any a c l _ HL.out hc (HB.out.keep (HF3.out.alloc _))).mono ?_
      rintro e w4 ⟨rfl, hf4⟩
      rw [HGT.out]
      have HF4 := Lib.hid ((HF3.out.alloc _).trans hf4)
      have ho4 := hf4.obj (heap_alloc_new w3 _) (by simp)
      have HO4 := Lib.hid ho4
      have x0 := cell_of_row w4 _ 0 _ _ _ ho4
      have x1 := cell_of_row w4 _ 1 _ _ _ ho4
      have x2 := cell_of_row w4 _ 2 _ _ _ ho4
      have x3 := cell_of_row w4 _ 3 _ _ _ ho4
      have x4 := cell_of_row w4 _ 4 _ _ _ ho4
      have x5 := cell_of_row w4 _ 5 _ _ _ ho4
      have x6 := cell_of_row w4 _ 6 _ _ _ ho4
      have hlt := (Array.getElem?_eq_some_iff.1 ho4).1
      clear ho4 hf4
      go_wp2
      go_ret
      exact ⟨rfl, HF4.out.alloc _⟩
    · have hgot : gGot l = .tuple #[.agg #[.bool true, .int .i64 (nm l 0 2), .int .i64 (nm l 2 4), .int .i64 (nm l 6 4 - 1), .int .i64 (nm l 10 4 - 1), .int .i64 (nm l 14 4 - 1), .int .i64 (nm l 18 4 - 1)], .int .i64 0] := gGot_yes hfin
      have HGT := Lib.hid hgot
      have HFIN := Lib.hid hfin
      clear hfin hgot
      go_wp2_with fail
      refine (GetGroup_any (some ⟨g, 0, none⟩) cap l w2 HL.out HV2.out).mono ?_
      rintro e w3 ⟨rfl, hf3⟩
      rw [HGT.out]
      have HF3 := Lib.hid (HF2.out.trans hf3)
      clear hf3
      go_wp2_with fail
      refine (refGetGroup_any a c l _ HL.out hc (HB.out.keep (HF3.out.alloc _))).mono ?_
      rintro e w4 ⟨rfl, hf4⟩
      rw [HGT.out]
      have HF4 := Lib.hid ((HF3.out.alloc _).trans hf4)
      have ho4 := hf4.obj (heap_alloc_new w3 _) (by simp)
      have HO4 := Lib.hid ho4
      have x0 := cell_of_row w4 _ 0 _ _ _ ho4
      have x1 := cell_of_row w4 _ 1 _ _ _ ho4
      have x2 := cell_of_row w4 _ 2 _ _ _ ho4
      have x3 := cell_of_row w4 _ 3 _ _ _ ho4
      have x4 := cell_of_row w4 _ 4 _ _ _ ho4
      have x5 := cell_of_row w4 _ 5 _ _ _ ho4
      have x6 := cell_of_row w4 _ 6 _ _ _ ho4
      have hlt := (Array.getElem?_eq_some_iff.1 ho4).1
      clear ho4 hf4
      go_wp2_with fail
      refine (PutGroup_yes true (nm l 0 2) (nm l 2 4) (nm l 6 4 - 1) (nm l 10 4 - 1) (nm l 14 4 - 1) (nm l 18 4 - 1) _ HFIN.out).mono ?_
      rintro e w5 ⟨v, rfl, hv⟩
      have HF5 := Lib.hid ((HF4.out.alloc _).trans hv.fr)
      have hv2 := hv
      rw [show gB ⟨true, (nm l 0 2 : Int), nm l 2 4, nm l 6 4 - 1, nm l 10 4 - 1, nm l 14 4 - 1, nm l 18 4 - 1⟩ = l from gB_gDec l HL.out] at hv2
      obtain ⟨g5, cap5, rfl, _, _, hb5, _⟩ := hv2.bytes
      have hs := same_any (some ⟨g5, 0, none⟩) a cap5 c l l w5 (fun h => by cases h) HNO.out hb5 (HB.out.keep HF5.out)
      rw [beq_self_eq_true] at hs
      have HS := Lib.hid hs
      clear hv hv2 hb5 hs
      go_wp2_with fail
      refine HS.out.mono ?_
      rintro e w6 ⟨rfl, rfl⟩
      go_wp2
      go_ret
      exact ⟨rfl, HF5.out⟩
  · go_wp2_with fail
    refine (GetGroup_size (some ⟨g, 0, none⟩) cap l w2 h22).mono ?_
    rintro e w3 ⟨rfl, hf3⟩
    have HF3 := Lib.hid (HF2.out.trans hf3)
    have HGZ := Lib.hid (show gZero = .agg #[.bool false, .int .i64 0, .int .i64 0, .int .i64 0, .int .i64 0, .int .i64 0, .int .i64 0] from rfl)
    rw [HGZ.out]
    clear hf3
    go_wp2_with fail
    refine (refGetGroup_size a c l _ h22).mono ?_
    rintro e w4 ⟨rfl, hf4⟩
    rw [HGZ.out]
    have HF4 := Lib.hid ((HF3.out.alloc _).trans hf4)
    have ho4 := hf4.obj (heap_alloc_new w3 _) (by simp)
    have x0 := cell_of_row w4 _ 0 _ _ _ ho4
    have x1 := cell_of_row w4 _ 1 _ _ _ ho4
    have x2 := cell_of_row w4 _ 2 _ _ _ ho4
    have x3 := cell_of_row w4 _ 3 _ _ _ ho4
    have x4 := cell_of_row w4 _ 4 _ _ _ ho4
    have x5 := cell_of_row w4 _ 5 _ _ _ ho4
    have x6 := cell_of_row w4 _ 6 _ _ _ ho4
    have hlt := (Array.getElem?_eq_some_iff.1 ho4).1
    clear ho4 hf4
    go_wp2
    go_ret
    exact ⟨rfl, HF4.out.alloc _⟩
end Go.Proofs.Ytmekplamjlnhcaa
