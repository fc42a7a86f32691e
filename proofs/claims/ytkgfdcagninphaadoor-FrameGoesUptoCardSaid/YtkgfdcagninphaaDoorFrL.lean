/- Frames: the walks of FrameNames and FramePacks. -/
import Derived.Test.YtkgfdcagninphaaDoorFrK
import Derived.Deep.RegionHeld3
namespace Go.Proofs.YtkgfdcagninphaaDoor
open Go.RowKit
attribute [local go_sem ↓] Go.wp_at_zero Go.wp_at_succ
attribute [local go_sem ↓] wp_storeF
attribute [local go_sem] frAdr_p frCs_a frAt0_p isFr_a
theorem frameNames_walk (w : World) (hn : Nib w) : Calls Tryd.prog 3 #[] w fun e w' => e = .returned (.bool true) ∧ Fr [] w w' := by
  go_enter Tryd.func3, Tryd.ntmps3
  go_wp2_with fail
  refine (speaks19 w hn).mono ?_
  rintro e w' ⟨rfl, hf⟩
  have HF := Lib.hid hf
  clear hf hn
  go_wp2
  go_ret
  exact ⟨rfl, HF.out⟩
theorem errP_cases (z : Int) (d : List UInt8) : 0 ≤ errP z d ∧ errP z d ≤ 2 := by unfold errP; split; decide; split; decide; decide
set_option maxRecDepth 100000 in
set_option maxHeartbeats 3200000 in
theorem framePacks_walk (z : Int) (a : Option Addr) (c : Nat) (l : List UInt8) (w : World) (hl : l.length ≤ 140737488351300) (hno : a = none → c = 0) (hb : Bytes w a l) (hn : Nib w) :
    Calls Tryd.prog 4 #[.agg #[.int .i64 z, .slice a l.length c]] w fun e w' => e = .returned (.bool true) ∧ Fr [] w w' := by
  have HN := Lib.hid hn
  have HNO := Lib.hid hno
  have HB := Lib.hid hb
  clear hn hno hb
  go_enter Tryd.func4, Tryd.ntmps4
  go_wp2_with fail
  obtain ⟨wa, hwa⟩ : ∃ wa, wa = w.alloc (.cells #[.int .i64 z, .slice a l.length c] 25) := ⟨_, rfl⟩
  rw [← hwa]
  have HFA := Lib.hid (show Fr [] w wa by rw [hwa]; exact (Fr.refl _ _).alloc _)
  have HBA := Lib.hid (show wa.heap[w.heap.size]? = some (.cells #[.int .i64 z, .slice a l.length c] 25) by rw [hwa]; exact heap_alloc_new w _)
  clear hwa
  refine (speaks19 wa (nib_keep HN.out HFA.out)).mono ?_
  rintro e w1 ⟨rfl, hf1⟩
  have HF1 := Lib.hid (HFA.out.trans hf1)
  have hb1 := hf1.obj HBA.out (by simp)
  have HB1 := Lib.hid hb1
  have hlt1 := (Array.getElem?_eq_some_iff.1 hb1).1
  have hbd : w1.drew.heap[w.heap.size]? = some (.cells #[.int .i64 z, .slice a l.length c] 25) := hb1
  have hbz : (w1.alloc (.cells #[.int .i64 0, .slice none 0 0] 25)).drew.heap[w.heap.size]? = some (.cells #[.int .i64 z, .slice a l.length c] 25) := (((Fr.refl [] w1).alloc _).drew).obj hbd (by simp)
  have HCL : Hid (∀ W, Fr [] w1 W → Calls Tryd.prog 12 #[.slice a l.length c] W fun e w' => ∃ g cap, e = .returned (.slice (some ⟨g, 0, none⟩) l.length cap) ∧ W.heap.size ≤ g ∧ g < w'.heap.size ∧ Bytes w' (some ⟨g, 0, none⟩) l ∧ Fr [] W w') := by
    refine Lib.hid fun W hW => (clone_any a c l W hl HNO.out ((HB.out.keep HF1.out).keep hW)).mono ?_
    rintro e w' ⟨v, rfl, hv⟩
    obtain ⟨g, cap, rfl, h1, h2, hb, hf⟩ := hv.bytes
    exact ⟨g, cap, rfl, h1, h2, hb, hf⟩
  clear hf1 hb1
  go_upto_region 3 with fail
  go_cut [3] (fun x wx => ∃ (b g cap : Nat), x = .pointer (some ⟨b, 0, none⟩) ∧ wx.heap[b]? = some (.cells #[.int .i64 z, .slice (some ⟨g, 0, none⟩) l.length cap] 25) ∧ Bytes wx (some ⟨g, 0, none⟩) l ∧ Fr [] w1 wx)
  case first =>
    go_region_held3 (fun w' => w'.cell? ⟨w.heap.size, 0, none⟩ = some (.int .i64 z) ∧ w'.cell? ⟨w.heap.size, 1, none⟩ = some (.slice a l.length c))
      (first
        | with_reducible assumption
        | exact duo hbd
        | exact duo hbz
        | exact duo (hA.obj hbd (by simp))
        | exact duo (hA.obj hbz (by simp))
        | exact duo (((Fr.refl [] _).alloc _).obj (hA.obj hbd (by simp)) (by simp))
        | exact duo ((Fr.setCells (S := [wA.heap.size]) (by simp) _ 0 _ (Fr.refl _ _)).obj (((Fr.refl [] _).alloc _).obj (hA.obj hbd (by simp)) (by simp)) (by have := hA.size; simp at this ⊢; omega))
        | exact duo ((Fr.setCells (S := [w1.heap.size]) (by simp) _ 0 _ (Fr.refl _ _)).obj (hA.obj hbz (by simp)) (by simp; omega)))
      (first
        | (go_at_call 12; (with_reducible refine (HCL.out _ ((Fr.refl [] w1).drew)).mono ?_); rintro e wA ⟨gA, cA, rfl, hgA, hgB, hbA, hA⟩; have hzA : ZatF (wA.alloc (.cells #[.int .i64 0, .slice none 0 0] 25)) wA.heap.size := heap_alloc_new wA _)
        | (go_at_call 12; (with_reducible refine (HCL.out _ (((Fr.refl [] w1).alloc _).drew)).mono ?_); rintro e wA ⟨gA, cA, rfl, hgA, hgB, hbA, hA⟩; have hzA : ZatF wA w1.heap.size := hA.obj (show (w1.alloc (.cells #[.int .i64 0, .slice none 0 0] 25)).drew.heap[w1.heap.size]? = _ from heap_alloc_new w1 _) (by simp)))
    all_goals go_wp2_with fail
    all_goals go_meet
    all_goals first
      | exact ⟨wA.heap.size, gA, cA, rfl, obj_setCells hzA [.int .i64 z, .slice (some ⟨gA, 0, none⟩) l.length cA] rfl, (hbA.keep ((Fr.refl [] wA).alloc _)).fr (Fr.setCells (S := [wA.heap.size]) (by simp) _ 0 _ (Fr.refl _ _)) (.inr fun ad e => by cases e; simp; omega), Fr.setCells (by intro h; have := hA.size; simp at this; omega) _ 0 _ ((((Fr.refl [] w1).drew).trans hA).alloc _)⟩
      | exact ⟨w1.heap.size, gA, cA, rfl, obj_setCells hzA [.int .i64 z, .slice (some ⟨gA, 0, none⟩) l.length cA] rfl, hbA.fr (Fr.setCells (S := [w1.heap.size]) (by simp) _ 0 _ (Fr.refl _ _)) (.inr fun ad e => by cases e; simp at hgA ⊢; omega), Fr.setCells (by intro h; omega) _ 0 _ ((((Fr.refl [] w1).alloc _).drew).trans hA)⟩
  case rest =>
    obtain ⟨b, g, cap, rfl, hrow, hby, hfr⟩ := hcut
    obtain ⟨x0, x1⟩ := duo hrow
    have HR := Lib.hid hrow
    have HF2 := Lib.hid (HF1.out.trans hfr)
    have HB2 := Lib.hid (hfr.obj HB1.out (by simp))
    have HBY := Lib.hid hby
    have HC2 := Lib.hid (HB.out.keep HF2.out)
    clear hbd hbz HCL HB1 HF1 hrow hby hfr
    go_wp2_with fail
    obtain ⟨E, hE⟩ : ∃ E, E = errP z l := ⟨_, rfl⟩
    obtain ⟨FL, hFL⟩ : ∃ FL, FL = fL z l := ⟨_, rfl⟩
    have HE := Lib.hid hE
    have HFL := Lib.hid hFL
    clear hE hFL
    refine (Pack_any z (some ⟨g, 0, none⟩) cap l _ hl (fun h => by cases h) HBY.out (nib_keep HN.out HF2.out)).mono ?_
    rintro e w3 ⟨a3, c3, rfl, ho3, hf3⟩
    rw [← HE.out, ← HFL.out]
    rw [← HFL.out] at ho3
    obtain ⟨y0, y1⟩ := duo (hf3.obj HB2.out (by simp))
    have HR3 := Lib.hid (hf3.obj HR.out (by simp))
    have HF3 := Lib.hid (HF2.out.trans hf3)
    have HBY3 := Lib.hid (HBY.out.keep hf3)
    have HB3 := Lib.hid (hf3.obj HB2.out (by simp))
    have HO3 := Lib.hid ho3
    clear hf3 ho3 x0 x1
    go_wp2_with fail
    refine (refPack_any z a c l w3 hl HNO.out (HB.out.keep HF3.out)).mono ?_
    rintro e w4 ⟨a4, c4, rfl, ho4, hf4⟩
    rw [← HE.out, ← HFL.out]
    rw [← HFL.out] at ho4
    clear y0 y1
    obtain ⟨x0, x1⟩ := duo (hf4.obj HR3.out (by simp))
    obtain ⟨y0, y1⟩ := duo (hf4.obj HB3.out (by simp))
    have HF4 := Lib.hid (HF3.out.trans hf4)
    have hs := same_any a3 a4 c3 c4 FL FL w4 (spl_none HO3.out) (spl_none ho4) ((own_by HO3.out).1.keep hf4) (own_by ho4).1
    rw [beq_self_eq_true] at hs
    have HS := Lib.hid hs
    have hS := Same_any z z (some ⟨g, 0, none⟩) a cap c l l w4 (fun h => by cases h) HNO.out (HBY3.out.keep hf4) (HB.out.keep HF4.out)
    rw [beq_self_eq_true, beq_self_eq_true] at hS
    have HS2 := Lib.hid hS
    have hee : (E == E) = true := beq_self_eq_true _
    clear hs hS hf4 ho4
    go_wp2_with fail
    refine HS.out.mono ?_
    rintro e w5 ⟨rfl, rfl⟩
    go_wp2_with fail
    refine HS2.out.mono ?_
    rintro e w5 ⟨rfl, hf5⟩
    have HF5 := Lib.hid (HF4.out.trans hf5)
    clear hf5
    go_wp2
    go_ret
    exact ⟨rfl, HF5.out⟩
end Go.Proofs.YtkgfdcagninphaaDoor
