/- Frames: the walk of FrameThere . -/
import Derived.Test.YtkgfdcagninphaaDoorFrU
import Derived.Deep.RegionHeld3
namespace Go.Proofs.YtkgfdcagninphaaDoor
open Go.RowKit
attribute [local go_sem ↓] Go.wp_at_zero Go.wp_at_succ
/-- a piece of the whole is fed -/
theorem there_feed {w5 wr : World} {p q M : Nat} {u v : Value} {X : List FI} {WH ch rs : List UInt8} (hp : w5.heap.size ≤ p) (h0 : (run WH).2.2 = 0) (hrd : RdS wr w5.heap.size p u v rs X 0) (hrs : rs = (WH.take q).drop (run (WH.take q)).2.1) (hXm : X.map FI.fr = (run (WH.take q)).1) (hfr : Fr [] w5 wr)
    (hch : ch = (WH.drop q).take M) (hchl : ch.length = M) (hWL : WH.length ≤ 1099521064960) (hnib : Nib wr) (hnl : 0 < w5.heap.size) (wA : World) (gA cA : Nat) (hA : Fr [] wr wA) (hb : Bytes wA (some ⟨gA, 0, none⟩) ch) :
    Calls Tryd.prog 23 #[.pointer (some ⟨p, 0, none⟩), .slice (some ⟨gA, 0, none⟩) M cA] wA fun e w' => e = .returned (.int .i64 0) ∧ ∃ u' v' X', RdS w' w5.heap.size p u' v' ((WH.take (q + M)).drop (run (WH.take (q + M))).2.1) X' 0 ∧ X'.map FI.fr = (run (WH.take (q + M))).1 ∧ Fr [] w5 w' := by
  obtain ⟨s1, s2, s3⟩ := feed_step WH q M h0 rs ch hrs hch
  have hrl : rs.length ≤ WH.length := by rw [hrs, List.length_drop, List.length_take]; omega
  have hcl : ch.length ≤ WH.length := by rw [hch, List.length_take, List.length_drop]; omega
  have hXl : X.length ≤ WH.length := by
    have h1 := congrArg List.length hXm
    have h2 := run_end (WH.take q)
    rw [List.length_map] at h1
    have h3 : (WH.take q).length ≤ WH.length := by rw [List.length_take]; omega
    omega
  have hrA := hrd.keep hA
  have hF := Feed_ok w5.heap.size p u v rs ch X (some ⟨gA, 0, none⟩) cA wA hrA hb (fun h => by cases h) (nib_keep hnib hA) (by omega) hnl (by omega) (by omega) (by have := hA.size; have := hfr.size; omega)
  rw [hchl] at hF
  refine hF.mono ?_
  rintro e w' ⟨u', v', X1, rfl, hr, hm, hf, -, -, -⟩
  refine ⟨by rw [s1], u', v', X ++ X1, ?_, by rw [List.map_append, hXm, hm, s2], ?_⟩
  · rw [s1, if_pos rfl, s3] at hr
    exact hr
  · refine (hfr.trans hA).next hf ?_
    intro i hi hlt
    rcases List.mem_cons.1 hi with hi | hi
    · omega
    · rcases List.mem_append.1 hi with hi | hi
      · have := (hrA.rest.lt (by simpa using hi)).1; omega
      · have := (hrA.ready.lt.1 i (by simpa using hi)).1; omega
/-- the next frame is taken, and other blocks may turn -/
theorem next_over {w : World} {B p : Nat} {u v : Value} {x : FI} {X : List FI} (h : RdS w B p u v [] (x :: X) 0) (W : World) (hW : Fr [] w W) :
    Calls Tryd.prog 25 #[.pointer (some ⟨p, 0, none⟩)] W fun y w' => y = .returned (.tuple #[.agg #[.int .i64 (I8 x.t), .slice x.a x.d.length x.c], .bool true]) ∧ Fr [p] W w' ∧
      ∃ v', ∀ g w'', Fr [g] w' w'' → w.heap.size ≤ g → RdS w'' B p u v' [] X 0 ∧ Bytes w'' x.a x.d := by
  refine (Next_some B p u v [] x X 0 W (h.keep hW)).mono ?_
  rintro y w' ⟨rfl, v', hr, hv, ho, hf⟩
  refine ⟨rfl, hf, v', fun g w'' hg hlt => ⟨hr.fr hg ?_ ?_ ?_ ?_, (own_by (own_fr ho hg ?_)).1⟩⟩
  · have := (Array.getElem?_eq_some_iff.1 h.obj).1
    simp; omega
  · intro i hi
    have := (h.rest.lt hi).2
    simp; omega
  · intro i hi
    have := (h.ready.lt.1 i (hv i hi)).2
    simp; omega
  · intro y hy i hi
    have := (h.ready.lt.2 y (List.mem_cons_of_mem _ hy) i hi).2
    simp; omega
  · intro i hi
    have := (h.ready.lt.2 x List.mem_cons_self i hi).2
    simp; omega
set_option maxRecDepth 100000 in
set_option maxHeartbeats 3200000 in
theorem frameThere_walk (fa ia : Option Addr) (n fc ic : Nat) (F : Nat → FV) (cs : List Int) (w : World) (hn : n ≤ 1048576) (hF : FrsA w fa n F) (hS : ∀ k, k < n → (F k).d.length ≤ 1048576) (hI : Ints w ia cs) (hcl : cs.length ≤ 140737488351300) (hnib : Nib w) :
    Calls Tryd.prog 9 #[.slice fa n fc, .slice ia cs.length ic] w fun e w' => e = .returned (.bool true) ∧ Fr [] w w' := by
  have HN := Lib.hid hnib
  have HF := Lib.hid hF
  have HS := Lib.hid hS
  have HI := Lib.hid hI
  clear hnib hF hS hI
  go_enter Tryd.func9, Tryd.ntmps9
  go_wp2_with fail
  refine (speaks19 w HN.out).mono ?_
  rintro e w1 ⟨rfl, hf1⟩
  have HF1 := Lib.hid hf1
  clear hf1
  go_wp2_with fail
  obtain ⟨wz, hwz⟩ : ∃ wz, wz = w1.alloc (.cells #[] 5) := ⟨_, rfl⟩
  rw [← hwz]
  have HG0 := Lib.hid (show Grow [] w1 wz (.slice (some ⟨w1.heap.size, 0, none⟩) 0 0) [] by
    rw [hwz]
    exact ⟨own_empty w1 5, by simp, fun _ h => (List.not_mem_nil h).elim, (Fr.refl _ _).alloc _⟩)
  clear hwz
  go_loopw [5, 28] (fun v i wr => ∃ k : Nat, k ≤ n ∧ i = .int .i64 k ∧ Grow [] w1 wr v (whF F k) ∧ ∀ j, j < k → errP (F j).z (F j).d = 0) (fun _ i _ => n - (intOf i).toNat)
  case atStart => exact ⟨0, by omega, rfl, HG0.out, fun j hj => absurd hj (by omega)⟩
  case round =>
    obtain ⟨k, hk, rfl, hg, herr⟩ := hrel
    by_cases hlt : k < n
    · obtain ⟨fb, fo, rfl, c0, c1⟩ := (HF.out.keep (HF1.out.trans hg.fr)).cell k hlt
      have hok := (HF.out.keep (HF1.out.trans hg.fr)).ok k hlt
      have hkn : (k : Int) < (n : Int) := by omega
      obtain ⟨z, hz⟩ : ∃ z, z = (F k).z := ⟨_, rfl⟩
      obtain ⟨a, ha⟩ : ∃ a, a = (F k).a := ⟨_, rfl⟩
      obtain ⟨c, hc⟩ : ∃ c, c = (F k).c := ⟨_, rfl⟩
      obtain ⟨l, hl⟩ : ∃ l, l = (F k).d := ⟨_, rfl⟩
      have hl6 : l.length ≤ 1048576 := by rw [hl]; exact HS.out k hlt
      have hwl := whF_length F k
      have HWK := Lib.hid (show whF F (k + 1) = whF F k ++ fL z l by rw [hz, hl]; rfl)
      have HEK := Lib.hid (show errP (F k).z (F k).d = errP z l by rw [hz, hl])
      have HBL := Lib.hid (show Bytes wr a l by rw [ha, hl]; exact hok.bytes)
      have HNO := Lib.hid (show a = none → c = 0 by rw [ha, hc]; exact hok.none)
      rw [← hz] at c0
      rw [← ha, ← hc, ← hl] at c1
      replace c1 : wr.cell? ⟨fb, fo + k * 2 + 1, none⟩ = some (.slice a l.length c) := c1
      have HG := Lib.hid hg
      have HER := Lib.hid herr
      obtain ⟨XS, hXS⟩ : ∃ XS, XS = whF F k := ⟨_, rfl⟩
      rw [← hXS] at HG HWK hwl
      clear hz ha hc hl hok hg herr hXS
      obtain ⟨wb, hwb⟩ : ∃ wb, wb = wr.alloc (.cells #[.int .i64 z, .slice a l.length c] 25) := ⟨_, rfl⟩
      have HFB := Lib.hid (show Fr [] wr wb by rw [hwb]; exact (Fr.refl _ _).alloc _)
      have hbb : wb.heap[wr.heap.size]? = some (.cells #[.int .i64 z, .slice a l.length c] 25) := by rw [hwb]; exact heap_alloc_new wr _
      have hbd : wb.drew.heap[wr.heap.size]? = some (.cells #[.int .i64 z, .slice a l.length c] 25) := hbb
      have HBB := Lib.hid hbb
      have HWB := Lib.hid hwb
      have HCL : Hid (∀ W, Fr [] wb W → Calls Tryd.prog 12 #[.slice a l.length c] W fun e w' => ∃ g cap, e = .returned (.slice (some ⟨g, 0, none⟩) l.length cap) ∧ Bytes w' (some ⟨g, 0, none⟩) l ∧ Fr [] W w') := by
        refine Lib.hid fun W hW => (clone_any a c l W (by omega) HNO.out ((HBL.out.keep HFB.out).keep hW)).mono ?_
        rintro e w' ⟨v, rfl, hv⟩
        obtain ⟨g, cap, rfl, h1, h2, hb, hf⟩ := hv.bytes
        exact ⟨g, cap, rfl, hb, hf⟩
      have HNIB := Lib.hid (nib_keep HN.out ((HF1.out.trans HG.out.fr).trans HFB.out))
      clear hwb hbb
      go_upto_region 7 with fail
      rw [← HWB.out]
      clear HWB c0 c1
      go_cut [8, 9] (fun v x wx => ∃ ax cx, v = .slice ax (fL z l).length cx ∧ x = .int .i64 (errP z l) ∧ wx.ownsRow wb.heap.size 5 1 (.slice ax (fL z l).length cx) (fL z l).length ((fL z l).map B8) ∧ Fr [] wb wx)
      case first =>
        go_region_held3 (fun w' => w'.cell? ⟨wr.heap.size, 0, none⟩ = some (.int .i64 z) ∧ w'.cell? ⟨wr.heap.size, 1, none⟩ = some (.slice a l.length c))
          (first
            | with_reducible assumption
            | exact duo hbd
            | exact duo (hA.obj hbd (by simp))
            | exact duo (hP.obj (hA.obj hbd (by simp)) (by simp)))
          (first
            | (go_at_call 12; (with_reducible refine (HCL.out _ ((Fr.refl [] wb).drew)).mono ?_); rintro e wA ⟨gA, cA, rfl, hbA, hA⟩)
            | (go_at_call 13; (with_reducible refine (Pack_any z (some ⟨gA, 0, none⟩) cA l wA (by omega) (fun h => by cases h) hbA (nib_keep HNIB.out (((Fr.refl [] wb).drew).trans hA))).mono ?_); rintro e wP ⟨aP, cP, rfl, hoP, hP⟩))
        all_goals go_wp2_with fail
        all_goals go_meet
        all_goals exact ⟨aP, cP, rfl, rfl, own_base hoP (by have := hA.size; simpa using this), (((Fr.refl [] wb).drew).trans hA).trans hP⟩
      case rest =>
        obtain ⟨ax, cx, rfl, rfl, hown, hfr⟩ := hcut
        obtain ⟨y0, y1⟩ := duo (hfr.obj HBB.out (by simp))
        have HOWN := Lib.hid hown
        have HFC := Lib.hid (HFB.out.trans hfr)
        have HFW := Lib.hid ((HF1.out.trans HG.out.fr).trans (HFB.out.trans hfr))
        clear hbd HCL hown hfr HBB HNIB
        by_cases hE : errP z l = 0
        · have HG2 := Lib.hid (HG.out.fr0 HFC.out)
          have HER2 : Hid (∀ j, j < k + 1 → errP (F j).z (F j).d = 0) := Lib.hid fun j hj => by
            by_cases h : j < k
            · exact HER.out j h
            · obtain rfl : j = k := by omega
              exact HEK.out.trans hE
          obtain ⟨va, vc, rfl⟩ := own_sl HG.out.own
          have HLF := Lib.hid (fL_length z l)
          have hXL : XS.length ≤ 1099520016384 := by omega
          rw [hE]
          clear HG HER HEK
          go_wp2_with (at_builtin; refine wpList_apB _ rfl _ _ 23 rfl w1.heap.size 5 Tryd.underlying23 info8 (.slice va XS.length vc) XS rfl HG2.out.own ax (fL z l).length cx (fL z l) rfl rfl (own_by HOWN.out).1 (spl_none HOWN.out) (by have := HLF.out; omega) HG2.out.size ?_; intro v' w' happ; have HAP := Lib.hid happ; clear happ)
          go_roundw
          case rel => exact ⟨k + 1, by omega, by go_num, by rw [HWK.out]; exact HG2.out.app HAP.out, HER2.out⟩
          case measure => simp [intOf] <;> omega
        · have HZ : z < 0 ∨ 255 < z ∨ 1048576 < l.length := by
            by_cases h1 : z < 0 ∨ 255 < z
            · omega
            · by_cases h2 : 1048576 < l.length
              · omega
              · exact absurd (errP_ok h1 h2) hE
          generalize errP z l = E at hE
          have hE1 : (E != 0) = true := by rw [bne_iff_ne]; exact hE
          clear HOWN HG HER HEK HWK
          rcases HZ with hz | hz | hz
          · have hd : decide (z < 0) = true := decide_eq_true hz
            go_wp2
            go_ret
            exact ⟨rfl, HFW.out⟩
          · have hd : decide (z < 0) = false := decide_eq_false (by omega)
            have hd2 : decide (255 < z) = true := decide_eq_true hz
            go_wp2
            go_ret
            exact ⟨rfl, HFW.out⟩
          · omega
    · obtain rfl : k = n := by omega
      obtain ⟨gw, vc, rfl, _, _, _, _⟩ := hg.fresh.bytes
      have hvc := (own_by hg.own).2
      have hwl := whF_length F k
      obtain ⟨WH, hWH⟩ : ∃ WH, WH = whF F k := ⟨_, rfl⟩
      have HSP := Lib.hid (show spl WH = (frF F k, 0) by rw [hWH]; exact whF_spl F k herr)
      have HRN := Lib.hid (show run WH = (frF F k, WH.length, 0) by rw [hWH]; exact whF_run F k herr)
      rw [← hWH] at hg hwl hvc ⊢
      have hWL : WH.length ≤ 1099521064960 := by omega
      have HG := Lib.hid hg
      have HFW := Lib.hid (HF1.out.trans hg.fr)
      have HBW := Lib.hid (own_by hg.own).1
      have HER := Lib.hid herr
      clear hg herr hwl hWH HG0
      go_wp2_with fail
      refine (clone_any (some ⟨gw, 0, none⟩) vc WH wr (by omega) (fun h => by cases h) HBW.out).mono ?_
      rintro e w3 ⟨v3, rfl, hv3⟩
      have ho3 := hv3.got.1
      obtain ⟨g3, c3, rfl, _, _, hb3, hf3⟩ := hv3.bytes
      have HB3 := Lib.hid hb3
      have hc3 := (own_by ho3).2
      have HF3 := Lib.hid (HFW.out.trans hf3)
      have HBW3 := Lib.hid (HBW.out.keep hf3)
      clear hv3 ho3 hb3 hf3
      go_wp2_with fail
      refine (Split_any (some ⟨g3, 0, none⟩) c3 WH w3 (by omega) hc3 (fun h => by cases h) HB3.out (nib_keep HN.out HF3.out)).mono ?_
      rintro e w4 ⟨v4, X, rfl, hX, hXm, hf4⟩
      rw [HSP.out] at hXm ⊢
      have HS4 := Lib.hid (SameAllA (c := fc) w4 hX (HF.out.keep (HF3.out.trans hf4)) hXm HER.out hn)
      have HF4 := Lib.hid (HF3.out.trans hf4)
      have HBW4 := Lib.hid (HBW3.out.keep hf4)
      obtain ⟨xa, xc, rfl⟩ := own_sl hX.row
      clear hX hXm hf4 hc3 HB3 HBW3
      go_wp2_with fail
      refine HS4.out.mono ?_
      rintro e w5 ⟨rfl, hf5⟩
      have HF5 := Lib.hid (HF4.out.trans hf5)
      have HBW5 := Lib.hid (HBW4.out.keep hf5)
      clear hf5 HS4 HBW4
      go_wp2_with fail
      refine (NewReader_F w5).mono ?_
      rintro e w6 ⟨p, rfl, hr6, hp, hp6, hf6⟩
      have HR6 := Lib.hid hr6
      have HP := Lib.hid hp
      have hnl : 0 < w5.heap.size := nib_lt (nib_keep HN.out HF5.out)
      have HF56 := Lib.hid hf6
      clear hr6 hp hf6
      go_wp2_with fail
      go_loopw [13, 81] (fun a i wr => ∃ (j q : Nat) (u v : Value) (X : List FI), j ≤ cs.length ∧ i = .int .i64 j ∧ q ≤ WH.length ∧ a = .int .i64 q ∧ RdS wr w5.heap.size p u v ((WH.take q).drop (run (WH.take q)).2.1) X 0 ∧ X.map FI.fr = (run (WH.take q)).1 ∧ Fr [] w5 wr) (fun _ i _ => cs.length - (intOf i).toNat)
      case atStart => exact ⟨0, 0, _, _, [], by omega, rfl, by omega, rfl, by simpa using HR6.out, by simp [run_cut one_nil], HF56.out⟩
      case round =>
        obtain ⟨j, q, u, v, X, hj, rfl, hq, rfl, hrd, hXm, hf⟩ := hrel
        by_cases hlt : j < cs.length
        · obtain ⟨b, o, rfl, hcs⟩ := (HI.out.keep (HF5.out.trans hf)).at (by omega)
          have hcj := hcs j hlt
          obtain ⟨N, hN63, hN⟩ := and63 (cs.getD j 0)
          have hjn : (j : Int) < (cs.length : Int) := by omega
          have HRD := Lib.hid hrd
          have HXM := Lib.hid hXm
          have HFR := Lib.hid hf
          generalize cs.getD j 0 = cj at hcj hN
          clear hcs hrd hXm hf
          obtain ⟨M, hM⟩ : ∃ M, M = min N (WH.length - q) := ⟨_, rfl⟩
          have hqM : q + M ≤ WH.length := by omega
          obtain ⟨ch, hch⟩ : ∃ ch, ch = (WH.drop q).take M := ⟨_, rfl⟩
          have hchl : ch.length = M := by rw [hch, List.length_take, List.length_drop]; omega
          have HFD : Hid (∀ wA gA cA, Fr [] wr wA → Bytes wA (some ⟨gA, 0, none⟩) ch → _) := Lib.hid (there_feed HP.out (by rw [HRN.out]) HRD.out rfl HXM.out HFR.out hch hchl hWL (nib_keep HN.out (HF5.out.trans HFR.out)) hnl)
          have HBQ : Hid (Bytes wr (some ⟨gw, q, none⟩) ch) := Lib.hid (by
            have h := (HBW5.out.keep HFR.out).sub q M hqM
            rw [Nat.zero_add] at h
            rw [hch]; exact h)
          have HCL : Hid (∀ o c', o = q ∨ M = 0 → Calls Tryd.prog 12 #[.slice (some ⟨gw, o, none⟩) M c'] wr fun e w' => ∃ g cap, e = .returned (.slice (some ⟨g, 0, none⟩) M cap) ∧ Bytes w' (some ⟨g, 0, none⟩) ch ∧ Fr [] wr w') := Lib.hid fun o c' ho => by
            have hb : Bytes wr (some ⟨gw, o, none⟩) ch := by
              rcases ho with rfl | ho
              · exact HBQ.out
              · have : ch = [] := List.eq_nil_of_length_eq_zero (by omega)
                subst this
                exact .inl rfl
            have h := clone_any (some ⟨gw, o, none⟩) c' ch wr (by omega) (fun h => by cases h) hb
            rw [hchl] at h
            refine h.mono ?_
            rintro e w' ⟨v, rfl, hv⟩
            obtain ⟨g, cap, rfl, h1, h2, hb, hf⟩ := hv.bytes
            rw [hchl]
            exact ⟨g, cap, rfl, hb, hf⟩
          clear hch hchl HRD HXM HBQ
          have HM := Lib.hid hM
          clear hM
          by_cases hmin : (N : Int) ≤ (WH.length : Int) - (q : Int)
          · obtain rfl : M = N := by have := HM.out; omega
            clear HM
            by_cases hvq : vc = q
            · subst hvq
              have hM0 : M = 0 := by omega
              subst hM0
              go_wp2_with fail
              refine (HCL.out _ _ (.inr (by simp))).mono ?_
              rintro e wA ⟨gA, cA, rfl, hbA, hA⟩
              have HBA := Lib.hid hbA
              have HAA := Lib.hid hA
              clear hbA hA
              go_wp2_with fail
              refine (HFD.out wA gA cA HAA.out HBA.out).mono ?_
              rintro e w7 ⟨rfl, hr7⟩
              have HR7 := Lib.hid hr7
              clear hr7
              go_wp2_with fail
              go_roundw
              case rel =>
                obtain ⟨u', v', X', a1, a2, a3⟩ := HR7.out
                exact ⟨j + 1, vc + 0, u', v', X', by omega, by go_num, by omega, by go_num, a1, a2, a3⟩
              case measure => simp [intOf] <;> omega
            · have t1 : (0 : Int) ≤ (q : Int) := by omega
              have t2 : (q : Int) ≤ (q : Int) + (M : Int) := by omega
              have t3 : (q : Int) + (M : Int) ≤ (vc : Int) := by omega
              have t4 : ((q : Int) + (M : Int)).toNat - q = M := by omega
              go_wp2_with fail
              refine (HCL.out _ _ (.inl rfl)).mono ?_
              rintro e wA ⟨gA, cA, rfl, hbA, hA⟩
              have HBA := Lib.hid hbA
              have HAA := Lib.hid hA
              clear hbA hA
              go_wp2_with fail
              refine (HFD.out wA gA cA HAA.out HBA.out).mono ?_
              rintro e w7 ⟨rfl, hr7⟩
              have HR7 := Lib.hid hr7
              clear hr7
              go_wp2_with fail
              go_roundw
              case rel =>
                obtain ⟨u', v', X', a1, a2, a3⟩ := HR7.out
                exact ⟨j + 1, q + M, u', v', X', by omega, by go_num, by omega, by go_num, a1, a2, a3⟩
              case measure => simp [intOf] <;> omega
          · have hML : (WH.length : Int) - (q : Int) = (M : Int) := by have := HM.out; omega
            clear HM
            have hMN : ¬ (N : Int) ≤ (M : Int) := by omega
            clear hmin hN63
            by_cases hvq : vc = q
            · subst hvq
              have hM0 : M = 0 := by omega
              subst hM0
              go_wp2_with fail
              refine (HCL.out _ _ (.inr (by simp))).mono ?_
              rintro e wA ⟨gA, cA, rfl, hbA, hA⟩
              have HBA := Lib.hid hbA
              have HAA := Lib.hid hA
              clear hbA hA
              go_wp2_with fail
              refine (HFD.out wA gA cA HAA.out HBA.out).mono ?_
              rintro e w7 ⟨rfl, hr7⟩
              have HR7 := Lib.hid hr7
              clear hr7
              go_wp2_with fail
              go_roundw
              case rel =>
                obtain ⟨u', v', X', a1, a2, a3⟩ := HR7.out
                exact ⟨j + 1, vc + 0, u', v', X', by omega, by go_num, by omega, by go_num, a1, a2, a3⟩
              case measure => simp [intOf] <;> omega
            · have t1 : (0 : Int) ≤ (q : Int) := by omega
              have t2 : (q : Int) ≤ (q : Int) + (M : Int) := by omega
              have t3 : (q : Int) + (M : Int) ≤ (vc : Int) := by omega
              have t4 : ((q : Int) + (M : Int)).toNat - q = M := by omega
              go_wp2_with fail
              refine (HCL.out _ _ (.inl rfl)).mono ?_
              rintro e wA ⟨gA, cA, rfl, hbA, hA⟩
              have HBA := Lib.hid hbA
              have HAA := Lib.hid hA
              clear hbA hA
              go_wp2_with fail
              refine (HFD.out wA gA cA HAA.out HBA.out).mono ?_
              rintro e w7 ⟨rfl, hr7⟩
              have HR7 := Lib.hid hr7
              clear hr7
              go_wp2_with fail
              go_roundw
              case rel =>
                obtain ⟨u', v', X', a1, a2, a3⟩ := HR7.out
                exact ⟨j + 1, q + M, u', v', X', by omega, by go_num, by omega, by go_num, a1, a2, a3⟩
              case measure => simp [intOf] <;> omega
        · obtain rfl : j = cs.length := by omega
          have HRD := Lib.hid hrd
          have HXM := Lib.hid hXm
          have HFR := Lib.hid hf
          clear hrd hXm hf
          obtain ⟨M, hM⟩ : ∃ M, M = WH.length - q := ⟨_, rfl⟩
          have hqM : q + M = WH.length := by omega
          obtain ⟨ch, hch⟩ : ∃ ch, ch = (WH.drop q).take M := ⟨_, rfl⟩
          have hchl : ch.length = M := by rw [hch, List.length_take, List.length_drop]; omega
          have HFD : Hid (∀ wA gA cA, Fr [] wr wA → Bytes wA (some ⟨gA, 0, none⟩) ch → Calls Tryd.prog 23 #[.pointer (some ⟨p, 0, none⟩), .slice (some ⟨gA, 0, none⟩) M cA] wA fun e w' => e = .returned (.int .i64 0) ∧ ∃ u' v' X', RdS w' w5.heap.size p u' v' [] X' 0 ∧ X'.map FI.fr = frF F k ∧ Fr [] w5 w') := Lib.hid fun wA gA cA h1 h2 => by
            have h := there_feed HP.out (by rw [HRN.out]) HRD.out rfl HXM.out HFR.out hch hchl hWL (nib_keep HN.out (HF5.out.trans HFR.out)) hnl wA gA cA h1 h2
            rw [hqM, List.take_of_length_le (Nat.le_refl _), HRN.out] at h
            simpa only [List.drop_length] using h
          have HBQ : Hid (Bytes wr (some ⟨gw, q, none⟩) ch) := Lib.hid (by
            have h := (HBW5.out.keep HFR.out).sub q M (by omega)
            rw [Nat.zero_add] at h
            rw [hch]; exact h)
          have HCL : Hid (∀ o c', o = q ∨ M = 0 → Calls Tryd.prog 12 #[.slice (some ⟨gw, o, none⟩) M c'] wr fun e w' => ∃ g cap, e = .returned (.slice (some ⟨g, 0, none⟩) M cap) ∧ Bytes w' (some ⟨g, 0, none⟩) ch ∧ Fr [] wr w') := Lib.hid fun o c' ho => by
            have hb : Bytes wr (some ⟨gw, o, none⟩) ch := by
              rcases ho with rfl | ho
              · exact HBQ.out
              · have : ch = [] := List.eq_nil_of_length_eq_zero (by omega)
                subst this
                exact .inl rfl
            have h := clone_any (some ⟨gw, o, none⟩) c' ch wr (by omega) (fun h => by cases h) hb
            rw [hchl] at h
            refine h.mono ?_
            rintro e w' ⟨v, rfl, hv⟩
            obtain ⟨g, cap, rfl, h1, h2, hb, hf⟩ := hv.bytes
            rw [hchl]
            exact ⟨g, cap, rfl, hb, hf⟩
          clear hch hchl HRD HXM HBQ
          have t0 : WH.length - q = M := hM.symm
          have t1 : (0 : Int) ≤ (q : Int) := by omega
          have t2 : (q : Int) ≤ (WH.length : Int) := by omega
          have t3 : (WH.length : Int) ≤ (vc : Int) := by omega
          clear hM hqM
          go_wp2_with fail
          all_goals
            refine (HCL.out _ _ (by first | exact .inl rfl | exact .inr (by omega))).mono ?_
            rintro e wA ⟨gA, cA, rfl, hbA, hA⟩
            have HBA := Lib.hid hbA
            have HAA := Lib.hid hA
            clear hbA hA
            go_wp2_with fail
            refine (HFD.out wA gA cA HAA.out HBA.out).mono ?_
            rintro e w7 ⟨rfl, u7', v7', X7, hr7, hm7, hf7⟩
            have HR7 := Lib.hid hr7
            have HM7 := Lib.hid hm7
            have HF7 := Lib.hid hf7
            clear hr7 hm7 hf7 HFD HCL HBA
            go_wp2_with fail
            refine (Rest_F _ _ _ _ _ _ _ _ HR7.out).mono ?_
            rintro e w8 ⟨rfl, rfl⟩
            simp only [List.length_nil, Int.ofNat_zero]
            go_wp2_with fail
            go_loopw [120] (fun i wr => ∃ (m : Nat) (v : Value) (X : List FI), m ≤ k ∧ i = .int .i64 m ∧ RdS wr w5.heap.size p u7' v [] X 0 ∧ X.map FI.fr = (frF F k).drop m ∧ Fr [] w5 wr) (fun i _ => k - (intOf i).toNat)
            case atStart => exact ⟨0, v7', X7, by omega, rfl, HR7.out, by rw [HM7.out, List.drop_zero], HF7.out⟩
            case round =>
              obtain ⟨m, v, X, hm, rfl, hrd, hXm, hf⟩ := hrel
              by_cases hlt : m < k
              · obtain ⟨fb, fo, rfl, c0, c1⟩ := (HF.out.keep (HF5.out.trans hf)).cell m hlt
                have hok := (HF.out.keep (HF5.out.trans hf)).ok m hlt
                have hmk : (m : Int) < (k : Int) := by omega
                have hg0 := congrArg (fun l => l[0]?) hXm
                simp only [List.getElem?_drop, Nat.add_zero] at hg0
                rw [frF_get F k m hlt] at hg0
                cases X with
                | nil => cases hg0
                | cons x XS =>
                have hfr : x.fr = (UInt8.ofNat (F m).z.toNat, (F m).d) := by simpa using hg0
                have htl : XS.map FI.fr = (frF F k).drop (m + 1) := by
                  have h := congrArg List.tail hXm
                  simpa using h
                have hzz := errP_0 (HER.out m hlt)
                have hxt : (F m).z = I8 x.t := by
                  have h : x.t = UInt8.ofNat (F m).z.toNat := congrArg Prod.fst hfr
                  rw [h, I8_of_nat _ (by omega)]; omega
                have hxd : (F m).d = x.d := (congrArg Prod.snd hfr).symm
                rw [hxt] at c0
                rw [hxd] at c1
                obtain ⟨ya, hya⟩ : ∃ ya, ya = (F m).a := ⟨_, rfl⟩
                obtain ⟨yc, hyc⟩ : ∃ yc, yc = (F m).c := ⟨_, rfl⟩
                have HBN : Hid (ya = none → yc = 0) := Lib.hid (by rw [hya, hyc]; exact hok.none)
                have HBY : Hid (Bytes w ya x.d) := Lib.hid (by rw [hya, ← hxd]; exact (HF.out.ok m hlt).bytes)
                rw [← hya, ← hyc] at c1
                replace c1 : wr.cell? ⟨fb, fo + m * 2 + 1, none⟩ = some (.slice ya x.d.length yc) := c1
                have HRD := Lib.hid hrd
                have HTL := Lib.hid htl
                have HFR := Lib.hid hf
                clear hrd hXm hg0 hfr hzz hxt hxd hok hya hyc htl hf
                obtain ⟨wb, hwb⟩ : ∃ wb, wb = wr.alloc (.cells #[.int .i64 (I8 x.t), .slice ya x.d.length yc] 25) := ⟨_, rfl⟩
                have HFB := Lib.hid (show Fr [] wr wb by rw [hwb]; exact (Fr.refl _ _).alloc _)
                have HBB := Lib.hid (show wb.heap[wr.heap.size]? = some (.cells #[.int .i64 (I8 x.t), .slice ya x.d.length yc] 25) by rw [hwb]; exact heap_alloc_new wr _)
                have HWB := Lib.hid hwb
                clear hwb
                go_upto_region 32 with fail
                rw [← HWB.out]
                clear HWB c0 c1
                have HRB := Lib.hid (HRD.out.keep HFB.out)
                have HNX := Lib.hid (next_over HRB.out)
                have hno := spl_none (HRB.out.ready.dat x List.mem_cons_self)
                have HNO := Lib.hid hno
                clear hno
                go_cut [19, 20] (fun a b wx => ∃ (g : Nat) (v' : Value), a = .pointer (some ⟨g, 0, none⟩) ∧ b = .bool true ∧ wx.heap[g]? = some (.cells #[.int .i64 (I8 x.t), .slice x.a x.d.length x.c] 25) ∧ RdS wx w5.heap.size p u7' v' [] XS 0 ∧ Bytes wx x.a x.d ∧ Fr [p] wb wx)
                case first =>
                  go_wp2_with fail
                  refine (HNX.out _ (Fr.refl [] wb)).mono ?_
                  rintro e wA ⟨rfl, hA, vA, hvA⟩
                  have HAA := Lib.hid hA
                  have HVA := Lib.hid hvA
                  clear hA hvA
                  go_wp2_with fail
                  go_meet
                  obtain ⟨r1, r2⟩ := HVA.out wb.heap.size _ (((Fr.refl [] wA).alloc (.cells #[.int .i64 (I8 x.t), .slice x.a x.d.length x.c] 25)).mono (by simp)) (Nat.le_refl _)
                  exact ⟨wA.heap.size, vA, rfl, rfl, heap_alloc_new wA _, r1, r2, HAA.out.alloc _⟩
                case rest =>
                  obtain ⟨g, v', rfl, rfl, hbg, hr', hby', hf'⟩ := hcut
                  have hpl := (Array.getElem?_eq_some_iff.1 HRD.out.obj).1
                  have hfw : Fr [] w5 wc := (HFR.out.trans HFB.out).next hf' (by intro i hi hlt; have := HP.out; simp at hi; omega)
                  have hBw : Bytes wc ya x.d := HBY.out.keep (HF5.out.trans hfw)
                  obtain ⟨g0, g1⟩ := duo hbg
                  obtain ⟨b0, b1⟩ := duo (hf'.obj HBB.out (by simp; omega))
                  have hS := Same_any (I8 x.t) (I8 x.t) ya x.a yc x.c x.d x.d wc HBN.out HNO.out hBw hby'
                  rw [beq_self_eq_true, beq_self_eq_true] at hS
                  have HS := Lib.hid hS
                  have HR' := Lib.hid hr'
                  have HFW' := Lib.hid hfw
                  clear hS hr' hfw hBw hby' hf' hbg hpl
                  go_wp2_with fail
                  refine HS.out.mono ?_
                  rintro e wS ⟨rfl, hfS⟩
                  have HFS := Lib.hid hfS
                  clear hfS
                  go_wp2_with fail
                  go_roundw
                  case rel => exact ⟨m + 1, v', XS, by omega, by go_num, HR'.out.keep HFS.out, HTL.out, HFW'.out.trans HFS.out⟩
                  case measure => simp [intOf] <;> omega
              · obtain rfl : m = k := by omega
                have hXn : X = [] := by
                  have h := congrArg List.length hXm
                  rw [List.length_map, List.length_drop, frF_length] at h
                  exact List.eq_nil_of_length_eq_zero (by omega)
                subst hXn
                have HRD := Lib.hid hrd
                have HFR := Lib.hid hf
                clear hrd hXm hf
                go_wp2_with fail
                refine (Next_none _ _ _ _ _ _ _ HRD.out).mono ?_
                rintro e wN ⟨rfl, hfN⟩
                have HFN := Lib.hid (HF5.out.trans (HFR.out.trans hfN))
                clear hfN
                go_wp2_with fail
                go_ret
                exact ⟨rfl, HFN.out.alloc _⟩
end Go.Proofs.YtkgfdcagninphaaDoor
