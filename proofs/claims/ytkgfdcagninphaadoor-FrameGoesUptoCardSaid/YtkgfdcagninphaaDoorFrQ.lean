/- Frames: the walk of the document's Frames. -/
import Derived.Test.YtkgfdcagninphaaDoorFrL
import Derived.Deep.RegionHeld3
import Derived.BigQuiet
namespace Go.Proofs.YtkgfdcagninphaaDoor
open Go.RowKit
attribute [local go_sem ↓] Go.wp_at_zero Go.wp_at_succ
attribute [local go_sem ↓] wp_storeF
attribute [local go_sem] frAdr_p frCs_a frAt0_p isFr_a
/-- what Frames gives -/
def FrsG (w w' : World) (e : Ending) (L : List UInt8) : Prop :=
  ∃ v X, e = .returned (.tuple #[v, .int .i64 ((run L).2.1 : Int), .int .i64 (run L).2.2]) ∧ FrL w' w.heap.size v X ∧ X.map FI.fr = (run L).1 ∧ Fr [] w w'
theorem FrL.empty (w : World) : FrL (w.alloc (.cells #[] 25)) w.heap.size (.slice (some ⟨w.heap.size, 0, none⟩) 0 0) [] :=
  ⟨⟨by simp [fiCells], .inr ⟨w.heap.size, 0, #[], rfl, Nat.le_refl _, heap_alloc_new w _, Nat.le_refl _, by unfold maxLen; omega, rfl, rfl⟩⟩, fun _ h => (List.not_mem_nil h).elim, List.Pairwise.nil, fun _ h => (List.not_mem_nil h).elim⟩
theorem results_tmp3 {fn : Func} {u v x : Tmp} (h : fn.results = #[.tmp u, .tmp v, .tmp x]) (tmps : Array Value) (P : Program) (w : World) :
    (results fn tmps).run P w = .ok (.tuple #[tmps.getD u undef, tmps.getD v undef, tmps.getD x undef]) w := by
  simp only [results, h]
  simp [Sem.run_bind, Result.andThen]
set_option maxRecDepth 100000 in
set_option maxHeartbeats 3200000 in
theorem refFrames_any (ad : Option Addr) (c : Nat) (L : List UInt8) (w : World) (hl : L.length ≤ 39582418590000) (hc : L.length ≤ c) (hno : ad = none → c = 0) (hb : Bytes w ad L) :
    Calls Tryd.prog 21 #[.slice ad L.length c] w fun e w' => FrsG w w' e L := by
  have HB := Lib.hid hb
  have HC := Lib.hid hc
  clear hb hno
  go_enter Tryd.func21, Tryd.ntmps21
  go_wp2_with fail
  obtain ⟨wz, hwz⟩ : ∃ wz, wz = w.alloc (.cells #[] 25) := ⟨_, rfl⟩
  rw [← hwz]
  have HFZ := Lib.hid (show Fr [] w wz by rw [hwz]; exact (Fr.refl _ _).alloc _)
  have HLZ := Lib.hid (show FrL wz w.heap.size (.slice (some ⟨w.heap.size, 0, none⟩) 0 0) [] by rw [hwz]; exact FrL.empty w)
  clear hwz
  go_loopw [5, 6] (fun v i wr => ∃ (X : List FI) (p : Nat), i = .int .i64 p ∧ p ≤ L.length ∧ FrL wr w.heap.size v X ∧ run L = (X.map FI.fr ++ (run (L.drop p)).1, p + (run (L.drop p)).2.1, (run (L.drop p)).2.2) ∧ Fr [] w wr) (fun _ i _ => L.length - (intOf i).toNat)
  case atStart => exact ⟨[], 0, rfl, by omega, HLZ.out, by simp, HFZ.out⟩
  case round =>
    obtain ⟨X, p, rfl, hp, hX, hrun, hf⟩ := hrel
    obtain ⟨va, vc, rfl⟩ := own_sl hX.row
    have HX := Lib.hid hX
    have HRUN := Lib.hid hrun
    have HF := Lib.hid hf
    obtain ⟨r, hr⟩ : ∃ r, r = L.drop p := ⟨_, rfl⟩
    have hrl : r.length = L.length - p := by rw [hr, List.length_drop]
    rw [← hr] at HRUN
    have HR := Lib.hid hr
    have HRL := Lib.hid hrl
    clear hX hrun hf hr hrl
    by_cases h5 : L.length < p + 5
    · have ho := one_short (l := r) (by rw [HRL.out]; omega)
      have hr2 := HRUN.out
      rw [run_cut ho] at hr2
      simp only [List.append_nil, Nat.add_zero] at hr2
      have HR2 := Lib.hid hr2
      have hd : decide ((5 : Int) ≤ (L.length : Int) - (p : Int)) = false := decide_eq_false (by omega)
      clear ho hr2
      go_wp2
      refine bodyPost_ret (results_tmp3 rfl _ _ _) rfl ?_
      refine ⟨_, X, by rw [HR2.out]; rfl, HX.out, by rw [HR2.out], HF.out⟩
    · have h5r : ¬ r.length < 5 := by rw [HRL.out]; omega
      obtain ⟨S, hS⟩ : ∃ S, S = sz r := ⟨_, rfl⟩
      have hS4 : S < 4294967296 := by rw [hS]; exact sz_lt r
      have HS := Lib.hid hS
      have hd : decide ((5 : Int) ≤ (L.length : Int) - (p : Int)) = true := decide_eq_true (by omega)
      have HBW := Lib.hid (HB.out.keep HF.out)
      obtain ⟨ab, ao, rfl, hcs⟩ := HBW.out.at (by omega)
      have HVAL : Hid (Calls Tryd.prog 37 #[.slice (some ⟨ab, ao + (p + 1), none⟩) 4 (c - (p + 1))] wr fun e w' => e = .returned (.int .u64 (S : Int)) ∧ wr = w') := by
        have hb := HBW.out.sub (p + 1) 4 (by omega)
        have hlen : ((L.drop (p + 1)).take 4).length = 4 := by rw [List.length_take, List.length_drop]; omega
        have h := val_any (some ⟨ab, ao + (p + 1), none⟩) (c - (p + 1)) ((L.drop (p + 1)).take 4) wr (by omega) hb
        have he : be ((L.drop (p + 1)).take 4) = S := by rw [hS]; unfold sz; rw [HR.out, List.drop_drop]
        rw [hlen, he, U_lt _ (by omega)] at h
        exact Lib.hid h
      have hc0 := hcs p (by omega)
      obtain ⟨t, ht⟩ : ∃ t, t = L.getD p 0 := ⟨_, rfl⟩
      rw [← ht] at hc0
      have HT := Lib.hid (show t = r.getD 0 0 by rw [ht, HR.out]; simp [List.getD])
      have HC0 : Hid (wr.cell? ⟨ab, ao + p, none⟩ = some (.int .u8 (I8 t))) := Lib.hid hc0
      have q1 : ((p : Int) + 1).toNat = p + 1 := by omega
      have q2 : ((p : Int) + 5 - ((p : Int) + 1)).toNat = 4 := by omega
      have q3 : (0 : Int) ≤ (p : Int) + 1 := by omega
      have q4 : (p : Int) + 1 ≤ (p : Int) + 5 := by omega
      have q5 : (p : Int) + 5 ≤ (c : Int) := by omega
      have q6 : ¬ c = p + 1 := by omega
      have q7 : IntKind.i64.wrap (S : Int) = (S : Int) := IntWalk.i64_in _ (by omega)
      clear hS ht hcs hc0
      by_cases hlong : 1048576 < S
      · have ho := one_long h5r (by rw [← HS.out]; exact hlong)
        have hr2 := HRUN.out
        rw [run_long ho] at hr2
        simp only [List.append_nil, Nat.add_zero] at hr2
        have HR2 := Lib.hid hr2
        have hd2 : decide ((1048576 : Int) < (S : Int)) = true := decide_eq_true (by omega)
        clear ho hr2 h5r
        go_wp2_with fail
        refine HVAL.out.mono ?_
        rintro e w2 ⟨rfl, rfl⟩
        go_wp2
        refine bodyPost_ret (results_tmp3 rfl _ _ _) rfl ?_
        refine ⟨_, X, by rw [HR2.out]; rfl, HX.out, by rw [HR2.out], HF.out⟩
      · have hd2 : decide ((1048576 : Int) < (S : Int)) = false := decide_eq_false (by omega)
        by_cases hcut : r.length < S + 9
        · have ho := one_cut h5r (by rw [← HS.out]; exact hlong) (by rw [← HS.out]; exact hcut)
          have hr2 := HRUN.out
          rw [run_cut ho] at hr2
          simp only [List.append_nil, Nat.add_zero] at hr2
          have HR2 := Lib.hid hr2
          have hd3 : decide ((L.length : Int) - (p : Int) < (S : Int) + 9) = true := decide_eq_true (by have := HRL.out; omega)
          clear ho hr2 h5r hcut
          go_wp2_with fail
          refine HVAL.out.mono ?_
          rintro e w2 ⟨rfl, rfl⟩
          go_wp2
          refine bodyPost_ret (results_tmp3 rfl _ _ _) rfl ?_
          refine ⟨_, X, by rw [HR2.out]; rfl, HX.out, by rw [HR2.out], HF.out⟩
        · have hd3 : decide ((L.length : Int) - (p : Int) < (S : Int) + 9) = false := decide_eq_false (by have := HRL.out; omega)
          obtain ⟨D, hD⟩ : ∃ D, D = (r.drop 5).take S := ⟨_, rfl⟩
          have hDl : D.length = S := by rw [hD, List.length_take, List.length_drop]; omega
          have hDL : D = (L.drop (p + 5)).take S := by rw [hD, HR.out, List.drop_drop]
          have HD := Lib.hid hD
          have HDL := Lib.hid hDl
          have hpS : p + (S + 9) ≤ L.length := by have := HRL.out; omega
          have HCP : Hid (∀ W, Fr [] wr W → Calls Tryd.prog 38 #[.slice (some ⟨ab, ao + (p + 5), none⟩) S (c - (p + 5))] W fun e w' => ∃ g cap, e = .returned (.slice (some ⟨g, 0, none⟩) S cap) ∧ W.heap.size ≤ g ∧ g < w'.heap.size ∧ w'.ownsRow W.heap.size 5 1 (.slice (some ⟨g, 0, none⟩) S cap) S (D.map B8) ∧ Fr [] W w') := by
            refine Lib.hid fun W hW => ?_
            have hb := (HBW.out.keep hW).sub (p + 5) S (by omega)
            rw [← hDL] at hb
            have h := copy_any (some ⟨ab, ao + (p + 5), none⟩) (c - (p + 5)) D W (by rw [hDl]; omega) hb
            rw [hDl] at h
            refine h.mono ?_
            rintro e w' ⟨v, rfl, hv⟩
            obtain ⟨g, cap, rfl, h1, h2, _, h3⟩ := hv.bytes
            have ho := hv.got.1
            rw [hDl] at ho ⊢
            exact ⟨g, cap, rfl, h1, h2, ho, h3⟩
          have hcd : wr.drew.cell? ⟨ab, ao + p, none⟩ = some (.int .u8 (I8 t)) := HC0.out
          have hcz : (wr.alloc (.cells #[.int .i64 0, .slice none 0 0] 25)).drew.cell? ⟨ab, ao + p, none⟩ = some (.int .u8 (I8 t)) := (((Fr.refl [] wr).alloc _).drew).cell HC0.out (by simp)
          have habl : ab < wr.heap.size := World.block_lt_of_cell? wr _ HC0.out
          have r1 : ((p : Int) + 5).toNat = p + 5 := by omega
          have r2 : ((p : Int) + 5 + (S : Int)).toNat - (p + 5) = S := by omega
          have r3 : (0 : Int) ≤ (p : Int) + 5 := by omega
          have r4 : (p : Int) + 5 ≤ (p : Int) + 5 + (S : Int) := by omega
          have r5 : (p : Int) + 5 + (S : Int) ≤ (c : Int) := by omega
          have r6 : ¬ c = p + 5 := by omega
          have r7 : (p : Int) < (L.length : Int) := by omega
          have r8 : p < L.length := by omega
          have r9 : IntKind.i64.wrap (I8 t) = I8 t := IntWalk.i64_in _ (by have := I8_lo t; have := I8_hi t; omega)
          have r10 : IntKind.i64.wrap ((p : Int) + 5) = (p : Int) + 5 := IntWalk.i64_in _ (by omega)
          have r11 : IntKind.i64.wrap ((p : Int) + 5 + (S : Int)) = (p : Int) + 5 + (S : Int) := IntWalk.i64_in _ (by omega)
          clear hD hDl hDL hcut
          go_upto_region 4 with fail
          go_wp2_with fail
          refine HVAL.out.mono ?_
          rintro e w2 ⟨rfl, rfl⟩
          go_upto_region 10 with fail
          go_cut [9] (fun x wx => ∃ (b g cap : Nat), x = .pointer (some ⟨b, 0, none⟩) ∧ wx.heap[b]? = some (.cells #[.int .i64 (I8 t), .slice (some ⟨g, 0, none⟩) S cap] 25) ∧ wx.ownsRow wr.heap.size 5 1 (.slice (some ⟨g, 0, none⟩) S cap) S (D.map B8) ∧ Fr [] wr wx)
          case first =>
            go_region_held3 (fun w' => w'.cell? ⟨ab, ao + p, none⟩ = some (.int .u8 (I8 t)))
              (first
                | with_reducible assumption
                | exact hcd
                | exact hA.cell hcd (by simp)
                | exact hcz
                | exact hA.cell hcz (by simp)
                | exact ((Fr.refl [] _).alloc _).cell (hA.cell hcd (by simp)) (by simp)
                | exact (Fr.setCells (S := [wA.heap.size]) (by simp) _ 0 _ (Fr.refl _ _)).cell (((Fr.refl [] _).alloc _).cell (hA.cell hcd (by simp)) (by simp)) (by have := hA.size; simp at this ⊢; omega)
                | exact (Fr.setCells (S := [wr.heap.size]) (by simp) _ 0 _ (Fr.refl _ _)).cell (hA.cell hcz (by simp)) (by simp; omega))
              (first
                | (go_at_call 38; (with_reducible refine (HCP.out _ ((Fr.refl [] wr).drew)).mono ?_); rintro e wA ⟨gA, cA, rfl, hgA, hgB, hoA, hA⟩; have hzA : ZatF (wA.alloc (.cells #[.int .i64 0, .slice none 0 0] 25)) wA.heap.size := heap_alloc_new wA _)
                | (go_at_call 38; (with_reducible refine (HCP.out _ (((Fr.refl [] wr).alloc _).drew)).mono ?_); rintro e wA ⟨gA, cA, rfl, hgA, hgB, hoA, hA⟩; have hzA : ZatF wA wr.heap.size := hA.obj (show (wr.alloc (.cells #[.int .i64 0, .slice none 0 0] 25)).drew.heap[wr.heap.size]? = _ from heap_alloc_new wr _) (by simp)))
            all_goals go_wp2_with fail
            all_goals go_meet
            all_goals first
              | exact ⟨wA.heap.size, gA, cA, rfl, obj_setCells hzA [.int .i64 (I8 t), .slice (some ⟨gA, 0, none⟩) S cA] rfl, own_fr (own_base hoA (Nat.le_refl _)) (Fr.setCells (S := [wA.heap.size]) (by simp) _ 0 _ ((Fr.refl _ wA).alloc _)) (by intro i hi; simp [Value.ownBlock] at hi; simp; omega), Fr.setCells (by intro h; have := hA.size; simp at this; omega) _ 0 _ ((((Fr.refl [] wr).drew).trans hA).alloc _)⟩
              | exact ⟨wr.heap.size, gA, cA, rfl, obj_setCells hzA [.int .i64 (I8 t), .slice (some ⟨gA, 0, none⟩) S cA] rfl, own_fr (own_base hoA (by simp)) (Fr.setCells (S := [wr.heap.size]) (by simp) _ 0 _ (Fr.refl _ _)) (by intro i hi; simp [Value.ownBlock] at hi; simp at hgA; simp; omega), Fr.setCells (by intro h; omega) _ 0 _ ((((Fr.refl [] wr).alloc _).drew).trans hA)⟩
          case rest =>
            obtain ⟨b, g, cap, rfl, hrow, hown, hfr⟩ := hcut
            obtain ⟨x0, x1⟩ := duo hrow
            have hE0 : errP (I8 t) D = 0 := errP_ok (by have := I8_lo t; have := I8_hi t; omega) (by rw [HDL.out]; omega)
            have hFL : fL (I8 t) D = fB t D := by
              rw [fL_ok hE0]
              congr 1
              have h1 : ((I8 t).toNat) = t.toNat := by unfold I8; omega
              rw [h1]
              exact UInt8.ofNat_toNat
            have HROW := Lib.hid hrow
            have HOWN := Lib.hid hown
            have HFC := Lib.hid hfr
            clear hrow hown hfr hcd hcz HCP HVAL HC0 r1 r2 r3 r4 r5 r6 r9 r10 r11 q1 q2 q3 q4 q5 q6 q7
            go_wp2_with fail
            have hown := HOWN.out
            rw [← HDL.out] at hown
            have hP := refPack_any (I8 t) (some ⟨g, 0, none⟩) cap D wc (by rw [HDL.out]; omega) (fun h => by cases h) (own_by hown).1
            rw [HDL.out] at hP
            refine hP.mono ?_
            rintro e w3 ⟨a3, c3, rfl, ho3, hf3⟩
            have hBl : (fB t D).length = S + 9 := by rw [fB_length, HDL.out]
            rw [hE0, hFL, hBl]
            rw [hFL] at ho3
            have HF3 := Lib.hid (HFC.out.trans hf3)
            have HO3 := Lib.hid (own_fr HOWN.out hf3 (by simp))
            have HROW3 := Lib.hid (hf3.obj HROW.out (by simp))
            have hk1 := conv_any a3 c3 (fB t D) w3.drew (spl_none ho3) (show Bytes w3.drew a3 (fB t D) from (own_by ho3).1.keep ((Fr.refl [] w3).drew))
            rw [hBl] at hk1
            have hsub : Bytes w3.drew (some ⟨ab, ao + p, none⟩) (r.take (S + 9)) := by
              have h := ((HBW.out.keep HF3.out).keep ((Fr.refl [] w3).drew)).sub p (S + 9) (by omega)
              rw [HR.out]
              exact h
            have hk2 := conv_any (some ⟨ab, ao + p, none⟩) (c - p) (r.take (S + 9)) w3.drew (fun h => by cases h) hsub
            have hRl : (r.take (S + 9)).length = S + 9 := by rw [List.length_take, HRL.out]; omega
            rw [hRl] at hk2
            have hsum := sum_eq (l := r) (by rw [← HS.out, HRL.out]; omega)
            rw [← HS.out, ← HD.out, ← HT.out] at hsum
            have s1 : ((p : Int) + (S : Int) + 9).toNat - p = S + 9 := by omega
            have s2 : (0 : Int) ≤ (p : Int) := by omega
            have s3 : (p : Int) ≤ (p : Int) + (S : Int) + 9 := by omega
            have s4 : (p : Int) + (S : Int) + 9 ≤ (c : Int) := by omega
            have s5 : ¬ c = p := by omega
            have s6 : IntKind.i64.wrap ((p : Int) + (S : Int)) = (p : Int) + (S : Int) := IntWalk.i64_in _ (by omega)
            have s7 : IntKind.i64.wrap ((p : Int) + (S : Int) + 9) = (p : Int) + (S : Int) + 9 := IntWalk.i64_in _ (by omega)
            have HSUM := Lib.hid hsum
            have HBLL := Lib.hid hBl
            obtain ⟨y0, y1⟩ := duo HROW3.out
            clear hP hown ho3 hf3 hE0 hFL hsub hRl hsum hBl x0 x1 HROW HOWN HFC
            go_upto_region 12 with fail
            go_region
            generalize hbb : (fB t D == List.take (S + 9) r) = bb
            rw [hbb] at HSUM
            clear hbb hk1 hk2 s1 s2 s3 s4 s5 s6 s7
            cases bb
            · have HSU := Lib.hid (show (su r S != sm (r.take (S + 5))) = true by unfold bne; rw [← HSUM.out]; rfl)
              have ho := one_bad h5r (by rw [← HS.out]; exact hlong) (by rw [← HS.out, HRL.out]; omega) (by rw [← HS.out]; exact HSU.out)
              have hr2 := HRUN.out
              rw [run_bad ho] at hr2
              simp only [List.append_nil, Nat.add_zero] at hr2
              have HR2 := Lib.hid hr2
              clear ho hr2 h5r
              go_wp2
              refine bodyPost_ret (results_tmp3 rfl _ _ _) rfl ?_
              refine ⟨_, X, by rw [HR2.out]; rfl, HX.out.keep (HF3.out.drew), by rw [HR2.out], (HF.out.trans HF3.out).drew⟩
            · have HSU := Lib.hid (show (su r S != sm (r.take (S + 5))) = false by unfold bne; rw [← HSUM.out]; rfl)
              have ho := one_ok h5r (by rw [← HS.out]; exact hlong) (by rw [← HS.out, HRL.out]; omega) (by rw [← HS.out]; exact HSU.out)
              rw [← HS.out, ← HD.out, ← HT.out] at ho
              have hst := run_step HRUN.out ho
              rw [HDL.out, HR.out, List.drop_drop] at hst
              have HST := Lib.hid hst
              have HXL := Lib.hid (show X.length ≤ 4398046511000 by
                have e1 := run_end L
                rw [HRUN.out] at e1
                simp only [List.length_append, List.length_map] at e1
                omega)
              have hxv : (FI.v ⟨t, some ⟨g, 0, none⟩, cap, D⟩) = .slice (some ⟨g, 0, none⟩) S cap := by unfold FI.v; rw [HDL.out]
              have HXV := Lib.hid hxv
              have HF4 := Lib.hid (show Fr [] wr (w3.drew.alloc (.cells #[.int .i64 (I8 t), .slice (some ⟨g, 0, none⟩) S cap] 25)) from (HF3.out.drew).alloc _)
              have HX4 := Lib.hid (HX.out.keep HF4.out)
              have HN4 := Lib.hid (show (w3.drew.alloc (.cells #[.int .i64 (I8 t), .slice (some ⟨g, 0, none⟩) S cap] 25)).heap[w3.heap.size]? = some (.cells #[.int .i64 (I8 t), .slice (some ⟨g, 0, none⟩) S cap] 25) from heap_alloc_new w3.drew _)
              have HO4 := Lib.hid (own_fr HO3.out (show Fr [] w3 (w3.drew.alloc (.cells #[.int .i64 (I8 t), .slice (some ⟨g, 0, none⟩) S cap] 25)) from ((Fr.refl [] w3).drew).alloc _) (by simp))
              have HBW4 := Lib.hid (show w.heap.size ≤ (w3.drew.alloc (.cells #[.int .i64 (I8 t), .slice (some ⟨g, 0, none⟩) S cap] 25)).heap.size from Nat.le_trans HF.out.size HF4.out.size)
              clear ho hst h5r hxv
              go_wp2_with (at_builtin; refine wpList_appS _ rfl _ _ 35 rfl w.heap.size 25 _ 2 32 Tryd.underlying35 infoFL rfl (by decide) (.slice va X.length vc) X.length (fiCells X) rfl HX4.out.row (some ⟨w3.heap.size, 0, none⟩) 1 1 [.int .i64 (I8 t), .slice (some ⟨g, 0, none⟩) S cap] rfl rfl (fr_news HN4.out) (fun h => by cases h) (by simp [Value.oneCell']) (by unfold maxLen; have := HXL.out; omega) (by have := HXL.out; omega) HBW4.out ?_; intro v' w' happ; have HAP := Lib.hid happ; clear happ)
              go_roundw
              case rel =>
                have hx := FrL.appN (x := ⟨t, some ⟨g, 0, none⟩, cap, D⟩) (N := wr.heap.size) HX4.out (fun g' hg => (HX.out.lt.1 g' hg).2) (fun y hy g' hg => (HX.out.lt.2 y hy g' hg).2) (by show World.ownsRow _ _ _ 1 (FI.v _) D.length (D.map B8); rw [HXV.out, HDL.out]; exact HO4.out) HF.out.size (by rw [HXV.out]; exact HAP.out)
                refine ⟨X ++ [⟨t, some ⟨g, 0, none⟩, cap, D⟩], p + (S + 9), by go_num, by omega, hx, by rw [List.map_append]; exact HST.out, ?_⟩
                exact (HF.out.trans HF4.out).next (app_fr2 HAP.out) (by intro i hi hlt; have := (HX.out.lt.1 i (by simpa using hi)).1; omega)
              case measure => simp [intOf] <;> omega
end Go.Proofs.YtkgfdcagninphaaDoor
