/- The walk of the law RectwoNodes. -/
import Derived.Test.YtmekplamjlnhcaaRecX
namespace Go.Proofs.Ytmekplamjlnhcaa
open Go.RowKit
attribute [local go_sem ↓] Go.wp_at_zero Go.wp_at_succ
set_option maxHeartbeats 3200000 in
set_option maxRecDepth 100000 in
theorem rectwoNodes_walk (dense : Bool) (first over : Int) (la : Option Addr) (lc : Nat) (labs : List Int) (sa : Option Addr) (sc : Nat) (sl : List UInt8) (w : World) (hll : labs.length ≤ 17592186044000) (hl : sl.length ≤ 140737488351300) (hnl : la = none → lc = 0) (hno : sa = none → sc = 0) (hi : Ints w la labs) (hb : Bytes w sa sl) :
    Calls Try.prog 8 #[.agg #[.bool dense, .int .i64 first, .int .i64 over, .slice la labs.length lc, .slice sa sl.length sc]] w fun e w' => e = .returned (.bool true) ∧ Fr [] w w' := by
  have HB := Lib.hid hb
  have HI := Lib.hid hi
  have HNO := Lib.hid hno
  have HNL := Lib.hid hnl
  have HLL := Lib.hid hll
  clear hb hno hi hnl hll
  go_enter Try.func8, Try.ntmps8
  go_wp2_with fail
  obtain ⟨wa, hwa⟩ : ∃ wa, wa = w.alloc (.cells #[.bool dense, .int .i64 first, .int .i64 over, .slice la labs.length lc, .slice sa sl.length sc] 54) := ⟨_, rfl⟩
  rw [← hwa]
  have hfa : Fr [] w wa := by rw [hwa]; exact (Fr.refl _ _).alloc _
  have hba : wa.heap[w.heap.size]? = some (.cells #[.bool dense, .int .i64 first, .int .i64 over, .slice la labs.length lc, .slice sa sl.length sc] 54) := by rw [hwa]; exact heap_alloc_new w _
  clear hwa
  refine (speaks15 wa).mono ?_
  rintro e w1 ⟨rfl, hf1⟩
  have hb1 := hf1.obj hba (by simp)
  have HB1 := Lib.hid hb1
  have HF1 := Lib.hid (hfa.trans hf1)
  have x0 := cell_of_row w1 _ 0 _ _ _ hb1
  have x1 := cell_of_row w1 _ 1 _ _ _ hb1
  have x2 := cell_of_row w1 _ 2 _ _ _ hb1
  have x3 := cell_of_row w1 _ 3 _ _ _ hb1
  have x4 := cell_of_row w1 _ 4 _ _ _ hb1
  clear hfa hba hf1 hb1
  go_wp2_with fail
  refine (copyNode_any dense first over la lc labs sa sc sl w1 HLL.out HNL.out (HI.out.keep HF1.out) hl HNO.out (HB.out.keep HF1.out)).mono ?_
  rintro e w2 ⟨ga, ca, gb, cb, rfl, hngb, hig, hbg, hf2⟩
  have hb2 := hf2.obj HB1.out (by simp)
  have HB2 := Lib.hid hb2
  have HF2 := Lib.hid (HF1.out.trans hf2)
  have HBG := Lib.hid hbg
  have HIG := Lib.hid hig
  have HNGB := Lib.hid hngb
  clear hf2 hb2 hbg hig hngb x0 x1 x2 x3 x4
  go_wp2_with fail
  obtain ⟨wc, hwc⟩ : ∃ wc, wc = w2.alloc (.cells #[.bool dense, .int .i64 first, .int .i64 over, .slice ga labs.length ca, .slice gb sl.length cb] 54) := ⟨_, rfl⟩
  rw [← hwc]
  have hfc : Fr [] w2 wc := by rw [hwc]; exact (Fr.refl _ _).alloc _
  have hbc : wc.heap[w2.heap.size]? = some (.cells #[.bool dense, .int .i64 first, .int .i64 over, .slice ga labs.length ca, .slice gb sl.length cb] 54) := by rw [hwc]; exact heap_alloc_new w2 _
  have HBC := Lib.hid hbc
  have HB2c := Lib.hid (hfc.obj HB2.out (by simp))
  have HFC := Lib.hid (HF2.out.trans hfc)
  have HBGc := Lib.hid (HBG.out.keep hfc)
  have HIGc := Lib.hid (HIG.out.keep hfc)
  have HLT2 := Lib.hid ((Array.getElem?_eq_some_iff.1 HB2.out).1)
  have hl4 : labs.length ≤ 140737488351300 := by have := HLL.out; omega
  have HL4 := Lib.hid hl4
  clear hwc hfc hbc hl4
  cases hfin : nFine ⟨dense, first, over, labs, sl⟩
  · refine (PutNode_no dense first over ga ca labs gb cb sl wc HL4.out HIGc.out hfin).mono ?_
    rintro e w3 ⟨rfl, hf3⟩
    have hb3 := hf3.obj HB2c.out (by simp)
    have HB3 := Lib.hid hb3
    have HF3 := Lib.hid (HFC.out.trans hf3)
    have HC3 := Lib.hid (hf3.obj HBC.out (by simp))
    have HBG3 := Lib.hid (HBGc.out.keep hf3)
    have HIG3 := Lib.hid (HIGc.out.keep hf3)
    have x0 := cell_of_row w3 _ 0 _ _ _ hb3
    have x1 := cell_of_row w3 _ 1 _ _ _ hb3
    have x2 := cell_of_row w3 _ 2 _ _ _ hb3
    have x3 := cell_of_row w3 _ 3 _ _ _ hb3
    have x4 := cell_of_row w3 _ 4 _ _ _ hb3
    clear hb3 hf3
    go_wp2_with fail
    refine (refPutNode_no dense first over la lc labs sa sc sl w3 HL4.out (HI.out.keep HF3.out) hfin).mono ?_
    rintro e w4 ⟨v, rfl, hv⟩
    have HF4 := Lib.hid (HF3.out.trans hv.fr)
    have hb4 := hv.fr.obj HB3.out (by simp)
    have hc4 := hv.fr.obj HC3.out (by simp)
    have HBG4 := Lib.hid (HBG3.out.keep hv.fr)
    have HIG4 := Lib.hid (HIG3.out.keep hv.fr)
    obtain ⟨g4, cap4, rfl, _, _, hbv, _⟩ := hv.bytes
    have hs := same_any none (some ⟨g4, 0, none⟩) 0 cap4 [] [] w4 (fun _ => rfl) (fun h => by cases h) (Bytes.nil _ _) hbv
    have HS := Lib.hid hs
    clear x0 x1 x2 x3 x4
    have x0 := cell_of_row w4 _ 0 _ _ _ hb4
    have x1 := cell_of_row w4 _ 1 _ _ _ hb4
    have x2 := cell_of_row w4 _ 2 _ _ _ hb4
    have x3 := cell_of_row w4 _ 3 _ _ _ hb4
    have x4 := cell_of_row w4 _ 4 _ _ _ hb4
    have y0 := cell_of_row w4 _ 0 _ _ _ hc4
    have y1 := cell_of_row w4 _ 1 _ _ _ hc4
    have y2 := cell_of_row w4 _ 2 _ _ _ hc4
    have y3 := cell_of_row w4 _ 3 _ _ _ hc4
    have y4 := cell_of_row w4 _ 4 _ _ _ hc4
    clear hv hbv hfin hs hb4 hc4
    go_wp2_with fail
    refine HS.out.mono ?_
    rintro e w5 ⟨rfl, rfl⟩
    go_wp2_with fail
    have hn := SameNode_eq dense first over ga la ca lc labs gb sa cb sc sl w4 HL4.out HIG4.out (HI.out.keep HF4.out) HNGB.out HNO.out HBG4.out (HB.out.keep HF4.out)
    refine hn.mono ?_
    rintro e w6 ⟨rfl, hf6⟩
    have HF6 := Lib.hid (HF4.out.trans hf6)
    clear hn hf6
    go_wp2
    go_ret
    exact ⟨rfl, HF6.out⟩
  · refine (PutNode_yes dense first over ga ca labs gb cb sl wc HIGc.out HNGB.out HBGc.out hfin).mono ?_
    rintro e w3 ⟨v, rfl, hv⟩
    have hb3 := hv.fr.obj HB2c.out (by simp)
    have HB3 := Lib.hid hb3
    have HF3 := Lib.hid (HFC.out.trans hv.fr)
    have HC3 := Lib.hid (hv.fr.obj HBC.out (by simp))
    have HBG3 := Lib.hid (HBGc.out.keep hv.fr)
    have HIG3 := Lib.hid (HIGc.out.keep hv.fr)
    have x0 := cell_of_row w3 _ 0 _ _ _ hb3
    have x1 := cell_of_row w3 _ 1 _ _ _ hb3
    have x2 := cell_of_row w3 _ 2 _ _ _ hb3
    have x3 := cell_of_row w3 _ 3 _ _ _ hb3
    have x4 := cell_of_row w3 _ 4 _ _ _ hb3
    obtain ⟨g3, cap3, rfl, _, _, hbv, _⟩ := hv.bytes
    have HV := Lib.hid hbv
    clear hb3 hv hbv
    go_wp2_with fail
    refine (refPutNode_yes dense first over la lc labs sa sc sl w3 (HI.out.keep HF3.out) (HB.out.keep HF3.out) hfin).mono ?_
    rintro e w4 ⟨u, rfl, hu⟩
    have HF4 := Lib.hid (HF3.out.trans hu.fr)
    have hb4 := hu.fr.obj HB3.out (by simp)
    have HB4 := Lib.hid hb4
    have hc4 := hu.fr.obj HC3.out (by simp)
    have HBG4 := Lib.hid (HBG3.out.keep hu.fr)
    have HIG4 := Lib.hid (HIG3.out.keep hu.fr)
    have HV4 := Lib.hid (HV.out.keep hu.fr)
    obtain ⟨g4, cap4, rfl, _, _, hbu, _⟩ := hu.bytes
    have hs := same_any (some ⟨g3, 0, none⟩) (some ⟨g4, 0, none⟩) cap3 cap4 _ _ w4 (fun h => by cases h) (fun h => by cases h) HV4.out hbu
    rw [beq_self_eq_true] at hs
    have HS := Lib.hid hs
    have HFIN := Lib.hid hfin
    clear x0 x1 x2 x3 x4
    have x0 := cell_of_row w4 _ 0 _ _ _ hb4
    have x1 := cell_of_row w4 _ 1 _ _ _ hb4
    have x2 := cell_of_row w4 _ 2 _ _ _ hb4
    have x3 := cell_of_row w4 _ 3 _ _ _ hb4
    have x4 := cell_of_row w4 _ 4 _ _ _ hb4
    have y0 := cell_of_row w4 _ 0 _ _ _ hc4
    have y1 := cell_of_row w4 _ 1 _ _ _ hc4
    have y2 := cell_of_row w4 _ 2 _ _ _ hc4
    have y3 := cell_of_row w4 _ 3 _ _ _ hc4
    have y4 := cell_of_row w4 _ 4 _ _ _ hc4
    clear hu hbu hfin hs hb4 hc4
    go_wp2_with fail
    refine HS.out.mono ?_
    rintro e w5 ⟨rfl, rfl⟩
    go_wp2_with fail
    have hn := SameNode_eq dense first over ga la ca lc labs gb sa cb sc sl w4 HL4.out HIG4.out (HI.out.keep HF4.out) HNGB.out HNO.out HBG4.out (HB.out.keep HF4.out)
    refine hn.mono ?_
    rintro e w6 ⟨rfl, hf6⟩
    have HF6 := Lib.hid (HF4.out.trans hf6)
    have HB6 := Lib.hid (hf6.obj HB4.out (by simp))
    have HV6 := Lib.hid (HV4.out.keep hf6)
    clear hn hf6 x0 x1 x2 x3 x4 y0 y1 y2 y3 y4
    go_wp2_with fail
    have hgd := nDec_nB _ HFIN.out
    have hok := nOk_nB _ HFIN.out
    refine (GetNode_any (some ⟨g3, 0, none⟩) cap3 _ w6 (nB_length _ HFIN.out) HV6.out).mono ?_
    rintro e w7 ⟨x, rfl, hgot, hf7⟩
    have hx : ∃ a7 c7 a8 c8, x = .tuple #[.agg #[.bool dense, .int .i64 first, .int .i64 over, .slice a7 labs.length c7, .slice a8 sl.length c8], .int .i64 0] ∧ Ints w7 a7 labs ∧ Bytes w7 a8 sl ∧ (a8 = none → c8 = 0) := by
      unfold GotNode at hgot
      rw [if_pos hok, hgd] at hgot
      obtain ⟨lv, v, rfl, ho1, ho2, _⟩ := hgot
      obtain ⟨a, c, rfl, h1, _⟩ := ints_of_own ho1
      obtain ⟨b, d, rfl, h2, _, _, h3, _⟩ := Bytes.of_own ho2
      exact ⟨a, c, b, d, rfl, h1, h2, h3⟩
    obtain ⟨a7, c7, a8, c8, rfl, hi7, hb7, hno7⟩ := hx
    have HI7 := Lib.hid hi7
    have HY7 := Lib.hid hb7
    have HN7 := Lib.hid hno7
    have HF7 := Lib.hid (HF6.out.trans hf7)
    have hb7 := hf7.obj HB6.out (by simp)
    have hlt7 := (Array.getElem?_eq_some_iff.1 hb7).1
    have x0 := cell_of_row w7 _ 0 _ _ _ hb7
    have x1 := cell_of_row w7 _ 1 _ _ _ hb7
    have x2 := cell_of_row w7 _ 2 _ _ _ hb7
    have x3 := cell_of_row w7 _ 3 _ _ _ hb7
    have x4 := cell_of_row w7 _ 4 _ _ _ hb7
    clear hgd hok hgot hi7 hno7 hb7 hf7
    go_wp2_with fail
    have hfx := (Fr.refl [] w7).alloc (.cells #[.bool dense, .int .i64 first, .int .i64 over, .slice a7 labs.length c7, .slice a8 sl.length c8] 54)
    have hn := SameNode_eq dense first over a7 la c7 lc labs a8 sa c8 sc sl _ HL4.out (HI7.out.keep hfx) (HI.out.keep (HF7.out.trans hfx)) HN7.out HNO.out (HY7.out.keep hfx) (HB.out.keep (HF7.out.trans hfx))
    have HFX := Lib.hid (HF7.out.trans hfx)
    clear hfx
    refine hn.mono ?_
    rintro e w8 ⟨rfl, hf8⟩
    have HF8 := Lib.hid (HFX.out.trans hf8)
    clear hn hf8
    go_wp2
    go_ret
    exact ⟨rfl, HF8.out⟩
end Go.Proofs.Ytmekplamjlnhcaa
