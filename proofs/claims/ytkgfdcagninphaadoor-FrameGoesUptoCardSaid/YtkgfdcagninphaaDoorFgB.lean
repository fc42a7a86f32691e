/- Frames: FrameGoes. -/
import Derived.Test.YtkgfdcagninphaaDoorFgA
namespace Go.Proofs.YtkgfdcagninphaaDoor
open Go.RowKit Go.Shelf
attribute [local go_sem] Oper.semAt_some
/-- what a row of values holds at a number -/
def pickU : List Value → Nat → Value
  | [], _ => undef
  | v :: _, 0 => v
  | _ :: l, n + 1 => pickU l n
set_option maxRecDepth 100000 in
def fgT (a : Option Addr) (m c RZ g1 c1 Bn WB en NB st XR k2 : Nat) (wa : Option Addr) (nX wc0 : Nat) (er : Int) (u5 u29 u30 u31 u32 u33 u40 u41 u42 u43 u44 u45 u46 u47 u50 u51 u52 u53 : Value) (u : Nat → Value) : List Value :=
  (.slice a m c) :: undef :: (.pointer (some ⟨RZ, 0, none⟩)) :: (.slice (some ⟨g1, 0, none⟩) m c1) :: (.func (.func 35) #[] #[.pointer (some ⟨Bn, 0, none⟩)]) :: u5 :: (.pointer (some ⟨WB, 0, none⟩)) :: (.int .i64 en) :: (.pointer (some ⟨NB, 0, none⟩)) :: (.int .i64 st) :: (.pointer (some ⟨XR, 0, none⟩)) :: (u 0) :: (u 1) :: (u 2) :: (u 3) :: (.slice a m c) :: (.slice (some ⟨g1, 0, none⟩) m c1) :: (.slice (some ⟨g1, 0, none⟩) m c1) :: (.func (.func 35) #[] #[.pointer (some ⟨Bn, 0, none⟩)]) :: (.func (.func 35) #[] #[.pointer (some ⟨Bn, 0, none⟩)]) :: (.bool false) :: (.bool false) :: (.bool true) :: (.bool false) :: (.bool false) :: (.slice (some ⟨g1, 0, none⟩) m c1) :: (.int .i64 m) :: (.int .i64 k2) :: (.bool false) :: u29 :: u30 :: u31 :: u32 :: u33 :: (.tuple #[.slice wa nX wc0, .int .i64 en, .int .i64 er]) :: (.slice a m c) :: (.tuple #[.slice wa nX wc0, .int .i64 en, .int .i64 er]) :: (.slice wa nX wc0) :: (.int .i64 en) :: (.int .i64 er) :: u40 :: u41 :: u42 :: u43 :: u44 :: u45 :: u46 :: u47 :: (.slice wa nX wc0) :: (.int .i64 nX) :: u50 :: u51 :: u52 :: u53 :: (u 4) :: (u 5) :: (u 6) :: (u 7) :: (u 8) :: (u 9) :: (u 10) :: (u 11) :: (u 12) :: (u 13) :: (u 14) :: (u 15) :: (u 16) :: (u 17) :: (u 18) :: (u 19) :: (u 20) :: (u 21) :: (u 22) :: (u 23) :: (u 24) :: (u 25) :: (u 26) :: (u 27) :: (u 28) :: (u 29) :: (u 30) :: (u 31) :: (u 32) :: (u 33) :: (u 34) :: (u 35) :: (u 36) :: (u 37) :: (u 38) :: (u 39) :: (u 40) :: (u 41) :: (u 42) :: (u 43) :: (u 44) :: (u 45) :: (u 46) :: (u 47) :: (u 48) :: (u 49) :: (u 50) :: (u 51) :: (u 52) :: (u 53) :: (u 54) :: (u 55) :: (u 56) :: (u 57) :: (u 58) :: (u 59) :: (u 60) :: (u 61) :: (u 62) :: (u 63) :: (u 64) :: (u 65) :: (u 66) :: (u 67) :: (u 68) :: (u 69) :: (u 70) :: (u 71) :: (u 72) :: (u 73) :: (u 74) :: (u 75) :: (u 76) :: (u 77) :: (u 78) :: (u 79) :: (u 80) :: (u 81) :: (u 82) :: (u 83) :: (u 84) :: (u 85) :: (u 86) :: (u 87) :: []
set_option maxRecDepth 100000 in
set_option maxHeartbeats 6400000 in
theorem frameGoes_walk (a : Option Addr) (c : Nat) (L : List UInt8) (w : World) (hl : L.length ≤ 39582418590000) (hc : L.length ≤ c) (hno : a = none → c = 0) (hb : Bytes w a L) (hn : Nib w) :
    Calls Tryd.prog 6 #[.slice a L.length c] w fun e w' => e = .returned (.bool true) ∧ Fr [] w w' := by
  have HN := Lib.hid hn
  have HNO := Lib.hid hno
  have HB := Lib.hid hb
  have HC := Lib.hid hc
  clear hn hno hb hc
  refine (callsIn_wide (n := 5)).1 ?_
  refine callsIn_of_wp_marks Tryd.func6 rfl trivial ?_ rfl
  simp only [Tryd.ntmps6, List.size_toArray, List.length_cons, List.length_nil, Nat.reduceAdd, Nat.reduceSub, Array.replicate_succ, Array.replicate_zero, List.push_toArray, List.append_toArray, List.nil_append, List.cons_append]
  refine wpIn_wide.2 ?_
  obtain ⟨wz, hwz⟩ : ∃ wz, wz = w.alloc (.cells #[.bool false] 4) := ⟨_, rfl⟩
  have hrz : wz.heap[w.heap.size]? = some (.cells #[.bool false] 4) := by rw [hwz]; exact heap_alloc_new w _
  have hfz : Fr [] w wz := by rw [hwz]; exact (Fr.refl _ _).alloc _
  obtain ⟨RZ, hRZ⟩ : ∃ RZ, RZ = w.heap.size := ⟨_, rfl⟩
  rw [← hRZ] at hrz
  have HRZ := Lib.hid hRZ
  have HR0 := Lib.hid hrz
  have HF0 := Lib.hid hfz
  have HWZ := Lib.hid hwz
  clear hwz hrz hfz hRZ
  go_upto_region 1 with fail
  rw [← HWZ.out, ← HRZ.out]
  clear HWZ
  have qF := eql_nilG
  have HCL := Lib.hid (clone_any a c L wz (by omega) HNO.out (HB.out.keep HF0.out))
  go_wp2_with fail
  refine HCL.out.mono ?_
  rintro e w1 ⟨v1, rfl, hv1⟩
  have ho1 := OwnB.of hv1.got.1
  obtain ⟨g1, c1, rfl, hg1, -, hb1, hf1⟩ := hv1.bytes
  have HO1 := Lib.hid ho1
  have HB1 := Lib.hid hb1
  have HF1 := Lib.hid (HF0.out.trans hf1)
  have HR1 := Lib.hid (hf1.obj HR0.out (by simp))
  have HG1 : Hid (RZ < g1 ∧ g1 < w1.heap.size ∧ w.heap.size ≤ g1) := Lib.hid ⟨by have := (Array.getElem?_eq_some_iff.1 HR0.out).1; omega, (ho1.lt (i := g1) rfl).2, by have := HF0.out.size; omega⟩
  obtain ⟨Bz, hBz⟩ : ∃ Bz, Bz = wz.heap.size := ⟨_, rfl⟩
  rw [← hBz] at HO1
  have HBZ := Lib.hid hBz
  clear hv1 ho1 hg1 hb1 hf1 HCL HR0 hBz
  have HAL := Lib.hid (All_any (some ⟨g1, 0, none⟩) c1 L w1 (by omega) (fun h => by cases h) HB1.out)
  go_wp2_with fail
  refine HAL.out.mono ?_
  rintro e w2 ⟨ga, gc, rfl, hbn, hgo, hf2⟩
  obtain ⟨Bn, hBn⟩ : ∃ Bn, Bn = w1.heap.size := ⟨_, rfl⟩
  rw [← hBn] at hbn ⊢
  have HBN := Lib.hid hbn
  have HGO := Lib.hid (own_base hgo (show w.heap.size ≤ w1.heap.size + 1 by have := HF1.out.size; omega))
  have HGG : Hid (∀ g, (Value.slice ga L.length gc).ownBlock = some g → g1 < g) := Lib.hid fun g hg => by have := (own_lt hgo hg).1; have := HG1.out; omega
  have HF2 := Lib.hid (HF1.out.trans hf2)
  have HR2 := Lib.hid (hf2.obj HR1.out (by simp))
  have HO2 := Lib.hid (HO1.out.keep hf2 (by simp))
  have HBG : Hid (g1 < Bn) := Lib.hid (by have := HG1.out; omega)
  clear hbn hgo hf2 hBn HAL HR1 HO1 HB1
  have HSP := Lib.hid (speaks19 w2 (nib_keep HN.out HF2.out))
  go_wp2_with fail
  refine HSP.out.mono ?_
  rintro e w3 ⟨rfl, hf3⟩
  have HF3 := Lib.hid (HF2.out.trans hf3)
  have HR3 := Lib.hid (hf3.obj HR2.out (by simp))
  have HO3 := Lib.hid (HO2.out.keep hf3 (by simp))
  have HBN3 := Lib.hid (hf3.obj HBN.out (by simp))
  have HGO3 := Lib.hid (own_fr HGO.out hf3 (by simp))
  clear hf3 HSP HR2 HO2 HBN HGO qF
  obtain ⟨m, hm⟩ : ∃ m, m = L.length := ⟨_, rfl⟩
  rw [← hm] at hl HO3
  have HM := Lib.hid hm
  go_upto_region 5 with fail
  rw [← HM.out]
  clear hm
  go_wp2_with fail
  go_loopw [27] (fun i wx => ∃ k2 : Nat, k2 ≤ m ∧ i = .int .i64 k2 ∧ Fr [g1] w3 wx ∧ OwnB wx Bz (.slice (some ⟨g1, 0, none⟩) m c1) m) (fun i _ => m - (intOf i).toNat)
  case atStart => exact ⟨0, by omega, rfl, Fr.refl _ _, HO3.out⟩
  case round =>
    obtain ⟨k2, hk2, rfl, hf5, ho5⟩ := hrel
    have HF5 := Lib.hid hf5
    have HO5 := Lib.hid ho5
    clear hf5 ho5
    by_cases hlt2 : k2 < m
    · obtain ⟨⟨y, hy⟩, hz⟩ := HO5.out.cell hlt2
      have hki2 : (k2 : Int) < (m : Int) := by omega
      have hk02 : (0 : Int) ≤ (k2 : Int) := by omega
      have e2 : IntKind.i64.wrap ((k2 : Int) + 1) = (k2 : Int) + 1 := IntWalk.i64_in _ (by omega)
      go_wp2_with fail
      go_roundw
      case rel => exact ⟨k2 + 1, by omega, by go_num, HF5.out.setCell (by simp) _, HO5.out.setN k2 238 (by decide)⟩
      case measure => simp [intOf] <;> omega
    · have hki2 : ¬ (k2 : Int) < (m : Int) := by omega
      have HF6 : Hid (Fr [] w wr) := Lib.hid (frNewG HF3.out HF5.out fun i hi => by
        simp at hi; subst hi; exact HG1.out.2.2)
      have HR6 := Lib.hid (HF5.out.obj HR3.out (by simp; have := HG1.out; omega))
      have HBN6 := Lib.hid (HF5.out.obj HBN3.out (by simp; have := HBG.out; omega))
      have HGO6 := Lib.hid (own_fr HGO3.out HF5.out (fun g hg hm => by simp at hm; have := HGG.out g hg; omega))
      have HRF := Lib.hid (refFrames_any a c L wr (by rw [← HM.out]; exact hl) HC.out HNO.out (HB.out.keep HF6.out))
      rw [← HM.out] at HRF
      clear hk2 HF5 HO5 HR3 HBN3 HGO3 HO3
      go_upto_region 10 with fail
      go_wp2_with fail
      refine HRF.out.mono ?_
      rintro e w5 ⟨wv, X, rfl, hfl, hX, hf5⟩
      obtain ⟨wa, wc0, rfl⟩ := own_sl hfl.row
      have HRL := Lib.hid (run_end L)
      have HXL : Hid (X.length = (run L).1.length) := Lib.hid (by rw [← hX, List.length_map])
      obtain ⟨en, hen⟩ : ∃ en, en = (run L).2.1 := ⟨_, rfl⟩
      obtain ⟨er, her⟩ : ∃ er, er = (run L).2.2 := ⟨_, rfl⟩
      rw [← hen, ← her]
      have HEN := Lib.hid hen
      have HER := Lib.hid her
      have HXM := Lib.hid hX
      have HFL5 := Lib.hid hfl
      have HF5 := Lib.hid (HF6.out.trans hf5)
      have HR5 := Lib.hid (hf5.obj HR6.out (by simp))
      have HBN5 := Lib.hid (hf5.obj HBN6.out (by simp))
      have HGO5 := Lib.hid (own_fr HGO6.out hf5 (by simp))
      have HFW : Hid (w.heap.size ≤ wr.heap.size) := Lib.hid HF6.out.size
      clear hfl hX hf5 hen her HRF HR6 HBN6 HGO6 HF6
      have HWI : Hid (∀ x : Nat, x = x) := Lib.hid fun _ => rfl
      obtain ⟨E, hE⟩ : ∃ E, E = erF L := ⟨_, rfl⟩
      have HEE := Lib.hid hE
      have HE1 : Hid (er = 0 → en < m → E = 10) := Lib.hid fun h1 h2 => by rw [hE]; unfold erF; rw [← HER.out, if_pos h1, if_pos (by rw [← HEN.out, ← HM.out]; exact h2)]
      have HE2 : Hid (er = 0 → ¬ en < m → E = 0) := Lib.hid fun h1 h2 => by rw [hE]; unfold erF; rw [← HER.out, if_pos h1, if_neg (by rw [← HEN.out, ← HM.out]; exact h2)]
      have HE3 : Hid (er ≠ 0 → E = er) := Lib.hid fun h1 => by rw [hE]; unfold erF; rw [← HER.out, if_neg h1]
      obtain ⟨wv, hwv⟩ : ∃ wv, wv = Value.slice wa X.length wc0 := ⟨_, rfl⟩
      have HWV := Lib.hid hwv
      rw [← hwv] at HFL5
      clear hE hwv
      go_upto_region 11 with fail
      obtain ⟨w6, hw6⟩ : ∃ w6, w6 = (w5.alloc (.cells #[Value.slice wa X.length wc0] 35)).alloc (.cells #[.int .i64 er] 3) := ⟨_, rfl⟩
      rw [← hw6]
      obtain ⟨WB, hWB⟩ : ∃ WB, WB = w5.heap.size := ⟨_, rfl⟩
      rw [← hWB]
      obtain ⟨NB, hNB⟩ : ∃ NB, NB = WB + 1 := ⟨_, rfl⟩
      rw [← hNB]
      have hf56 : Fr [] w5 w6 := by rw [hw6]; exact ((Fr.refl _ _).alloc _).alloc _
      have hwb6 : w6.heap[WB]? = some (.cells #[wv] 35) := by rw [hw6, hWB, HWV.out]; exact ((Fr.refl [] _).alloc _).obj (heap_alloc_new w5 _) (by simp)
      have hnb6 : w6.heap[NB]? = some (.cells #[.int .i64 er] 3) := by
        rw [hw6, hNB, hWB]
        have := heap_alloc_new (w5.alloc (.cells #[Value.slice wa X.length wc0] 35)) (.cells #[.int .i64 er] 3)
        rwa [World.size_alloc] at this
      have HS6 : Hid (FgS w RZ NB WB Bn er wv X ga gc L w6) := Lib.hid ⟨hf56.obj HR5.out (by simp), hnb6, hwb6, (⟨own_base HFL5.out.row (by have := HF5.out.size; have := HFW.out; omega), fun x hx => own_base (HFL5.out.dat x hx) (by have := HFW.out; omega), HFL5.out.dis, HFL5.out.off⟩ : FrL w5 w.heap.size wv X).keep hf56, hf56.obj HBN5.out (by simp), own_fr HGO5.out hf56 (by simp), HF5.out.trans hf56, by rw [HRZ.out]; exact Nat.le_refl _, by rw [hNB, hWB]; have := HF5.out.size; omega⟩
      clear hw6 hWB hNB hf56 hwb6 hnb6 HFL5 HR5 HBN5 HGO5 HF5
      have n6 := cell_of_row _ _ 0 _ _ _ HS6.out.nb
      have b6 := cell_of_row _ _ 0 _ _ _ HS6.out.wb
      rw [HWV.out] at b6
      simp at n6 b6
      have nf6 : w6.frozen? ⟨NB, 0, none⟩ = false := frozen_of_row _ _ 0 _ _ HS6.out.nb
      have nl6 : NB < w6.heap.size := (Array.getElem?_eq_some_iff.1 HS6.out.nb).1
      obtain ⟨tb, htb⟩ : ∃ tb, tb = decide (er = 0 ∧ en < m) := ⟨_, rfl⟩
      have HTB := Lib.hid htb
      clear htb
      go_cut [47] from 40 to 46 (fun v wx => v = .bool tb ∧ wx = w6)
      case first =>
        by_cases h0 : er = 0
        · by_cases h1 : en < m
          · have h1i : (en : Int) < (m : Int) := by omega
            have HT : Hid (tb = true) := Lib.hid (by rw [HTB.out]; exact decide_eq_true ⟨h0, h1⟩)
            subst h0
            go_wp2_with fail
            go_meet
            exact ⟨by rw [HT.out], rfl⟩
          · have h1i : ¬ (en : Int) < (m : Int) := by omega
            have HT : Hid (tb = false) := Lib.hid (by rw [HTB.out]; exact decide_eq_false (fun h => h1 h.2))
            subst h0
            go_wp2_with fail
            go_meet
            exact ⟨by rw [HT.out], rfl⟩
        · have h0i : (er == 0) = false := by rw [beq_eq_false_iff_ne]; exact h0
          have HT : Hid (tb = false) := Lib.hid (by rw [HTB.out]; exact decide_eq_false (fun h => h0 h.1))
          clear h0
          go_wp2_with fail
          go_meet
          exact ⟨by rw [HT.out], rfl⟩
      case rest =>
        obtain ⟨rfl, rfl⟩ := hcut
        go_upto_if 47 with fail
        go_cut [] from 40 to 47 (fun wx => FgS w RZ NB WB Bn E wv X ga gc L wx)
        case first =>
          cases tb with
          | true =>
            have HD := Lib.hid (of_decide_eq_true HTB.out.symm)
            go_wp2_with fail
            go_meet
            rw [HE1.out HD.out.1 HD.out.2]
            exact HS6.out.setN 10
          | false =>
            have HEQ : Hid (E = er) := Lib.hid (by
              have hd := of_decide_eq_false HTB.out.symm
              by_cases h0 : er = 0
              · rw [h0]; exact HE2.out h0 (fun h => hd ⟨h0, h⟩)
              · exact HE3.out h0)
            go_wp2_with fail
            go_meet
            rw [HEQ.out]
            exact HS6.out
        case rest =>
          have HS7 := Lib.hid hcut
          clear hcut n6 b6 nf6 nl6 HS6
          have n7 := cell_of_row _ _ 0 _ _ _ HS7.out.nb
          have b7 := cell_of_row _ _ 0 _ _ _ HS7.out.wb
          rw [HWV.out] at b7
          simp at n7 b7
          have HXB : Hid (X.length ≤ 4398046511000) := Lib.hid (by rw [HXL.out]; have h1 := HRL.out.1; have h2 := HRL.out.2.1; have := HM.out; omega)
          obtain ⟨st, hst⟩ : ∃ st : Nat, st = X.length + (if E = 0 then 0 else 1) := ⟨_, rfl⟩
          have HST0 := Lib.hid hst
          clear hst
          obtain ⟨te, hte⟩ : ∃ te, te = decide (E ≠ 0) := ⟨_, rfl⟩
          have HTE := Lib.hid hte
          clear hte
          obtain ⟨w8, hw8⟩ : ∃ w8, w8 = wc := ⟨_, rfl⟩
          subst hw8
          go_upto_region 14 with fail
          go_cut [51] from 50 to 50 (fun v wx => v = .bool te ∧ wx = w8)
          case first =>
            by_cases h0 : E = 0
            · have HT : Hid (te = false) := Lib.hid (by rw [HTE.out]; exact decide_eq_false (fun h => h h0))
              have h0i : (E != 0) = false := by rw [h0]; rfl
              clear h0
              go_wp2_with fail
              go_meet
              exact ⟨by rw [HT.out], rfl⟩
            · have HT : Hid (te = true) := Lib.hid (by rw [HTE.out]; exact decide_eq_true h0)
              have h0i : (E != 0) = true := by rw [bne_iff_ne]; exact h0
              clear h0
              go_wp2_with fail
              go_meet
              exact ⟨by rw [HT.out], rfl⟩
          case rest =>
            obtain ⟨rfl, rfl⟩ := hcut
            have HSTV : Hid (st = X.length + if te = true then 1 else 0) := Lib.hid (by
              rw [HST0.out, HTE.out]
              by_cases h0 : E = 0
              · rw [if_pos h0, if_neg (by simp [h0])]
              · rw [if_neg h0, if_pos (by simp [h0])])
            have ex : IntKind.i64.wrap ((X.length : Int) + 1) = (X.length : Int) + 1 := IntWalk.i64_in _ (by have := HXB.out; omega)
            go_upto_if 51 with fail
            go_cut [9] from 50 to 53 (fun v wx => v = .int .i64 st ∧ wx = wc)
            case first =>
              cases te with
              | true =>
                go_wp2_with fail
                go_meet
                exact ⟨by rw [HSTV.out]; rfl, rfl⟩
              | false =>
                go_wp2_with fail
                go_meet
                exact ⟨by rw [HSTV.out]; rfl, rfl⟩
            case rest =>
              obtain ⟨rfl, rfl⟩ := hcut
              clear ex n7 b7
              go_wp2_with fail
              refine wp_loop_ghost_k (fun (z : Nat) (ac : Act) (wx : World) => ∃ (r XR : Nat) (Ds : List Nat) (u : Nat → Value), ac = { tmps := (List.toArray (fgT a m c RZ g1 c1 Bn WB en NB st XR k2 wa X.length wc0 er u5 u29 u30 u31 u32 u33 u40 u41 u42 u43 u44 u45 u46 u47 u50 u51 u52 u53 u)), defers := marksG Ds } ∧ r + z = 3 ∧ FgS w RZ NB WB Bn E wv X ga gc L wx ∧ wx.heap[XR]? = some (.cells #[.int .i64 r] 3) ∧ w.heap.size ≤ XR ∧ Ds.Nodup ∧ ∀ D ∈ Ds, wx.heap[D]? = some (.deferred (some [])) ∧ w.heap.size ≤ D) 3 ⟨0, wc.heap.size, [], pickU [_, _, _, _, _, _, _, _, _, _, _, _, _, _, _, _, _, _, _, _, _, _, _, _, _, _, _, _, _, _, _, _, _, _, _, _, _, _, _, _, _, _, _, _, _, _, _, _, _, _, _, _, _, _, _, _, _, _, _, _, _, _, _, _, _, _, _, _, _, _, _, _, _, _, _, _, _, _, _, _, _, _, _, _, _, _, _, _], rfl, rfl, HS7.out.keep ((Fr.refl _ _).alloc _), heap_alloc_new wc _, HS7.out.fr.size, List.nodup_nil, fun D hD => absurd hD (by simp)⟩ ?_
              clear HS7
              rintro z ac wx ⟨r, XR, Ds, u, rfl, hrz, hta, hxr, hxn, hnd, hds⟩ J K hJ hK
              have HJ := Lib.hid hJ
              have HK := Lib.hid hK
              have HTA := Lib.hid hta
              have HXR := Lib.hid hxr
              have HND := Lib.hid hnd
              have HDS := Lib.hid hds
              have vr := cell_of_row _ _ 0 _ _ _ hxr
              simp at vr
              clear hJ hK hta hxr hnd hds
              simp only [fgT]
              by_cases hr3 : r < 3
              · have hri : (r : Int) < 3 := by omega
                go_wp2_with fail
                obtain ⟨w9, hw9⟩ : ∃ w9, w9 = wx.alloc (.cells #[.int .i64 0] 3) := ⟨_, rfl⟩
                obtain ⟨XA, hXA⟩ : ∃ XA, XA = wx.heap.size := ⟨_, rfl⟩
                rw [← hw9, ← hXA]
                have hf9 : Fr [] wx w9 := by rw [hw9]; exact (Fr.refl _ _).alloc _
                have hxa9 : w9.heap[XA]? = some (.cells #[.int .i64 0] 3) := by rw [hw9, hXA]; exact heap_alloc_new wx _
                have hxx : XA ≠ XR := by have := (Array.getElem?_eq_some_iff.1 HXR.out).1; omega
                have hoa := HTA.out.off (x := XA) (by omega)
                refine (wpIn_wide (n := 5)).1 ?_
                refine range_wide rfl (enters_of Tryd.func35 (by kernel_rfl) rfl) ?_
                intro fn W1 hlr hD hf1 hsz1
                obtain ⟨D, hDD⟩ : ∃ D, D = w9.heap.size := ⟨_, rfl⟩
                rw [← hDD] at hlr hD hsz1 ⊢
                obtain ⟨R, hR, hlr2⟩ := lp_take hlr
                have hf91 := hf9.trans hf1
                have hilR : ∀ s p, isLG (R s p) := fun s p => by rw [hR]; exact isLG_lp ..
                have HIL := Lib.hid hilR
                have HST : Hid (FgL w RZ NB WB Bn E wv X ga gc L XR r XA D Ds (R .ready none) 0 W1) := Lib.hid ⟨HTA.out.keep hf91, hf91.obj HXR.out (by simp), hf1.obj hxa9 (by simp), hlr2, hilR _ _, fun D' hD' => by
                  rcases List.mem_cons.1 hD' with rfl | hD'
                  · exact hD
                  · exact hf91.obj (HDS.out D' hD').1 (by simp), hxx, hoa, HTA.out.off (by have := hf9.size; omega), hxn, by rw [hDD]; have := hf9.size; have := HTA.out.fr.size; omega⟩
                have HRR := Lib.hid hR
                have HDN : Hid ((D :: Ds).Nodup) := Lib.hid (List.nodup_cons.2 ⟨fun hm => by have := (Array.getElem?_eq_some_iff.1 (HDS.out D hm).1).1; have := hf9.size; omega, HND.out⟩)
                have HDW : Hid (∀ D' ∈ D :: Ds, w.heap.size ≤ D') := Lib.hid fun D' hD' => by
                  rcases List.mem_cons.1 hD' with rfl | hD'
                  · exact HST.out.new.2
                  · exact (HDS.out D' hD').2
                clear hw9 hXA hf9 hxa9 hxx hoa hf1 hsz1 hf91 hilR hD hDD vr HXR HTA HDS HND
                have HLM : Hid (L.length ≤ 39582418590000) := Lib.hid (by rw [← HM.out]; exact hl)
                refine (All1_in 4 (D + 1) Bn ga gc L W1 (fun F A => (r = 1 → F = []) ∧ FgL w RZ NB WB Bn E wv X ga gc L XR r XA D Ds (R .ready none) F.length A)
                  (fun A => (r = 1 → X.length = 0) ∧ FgL w RZ NB WB Bn E wv X ga gc L XR r XA D Ds (stG R r) (X.length + 1) A)
                  (fun A => r = 1 ∧ 0 < X.length ∧ FgL w RZ NB WB Bn E wv X ga gc L XR r XA D Ds (R .done (some (.exit 4))) 1 A) (by have := HLM.out; omega) (own_by HST.out.s.go).2 (cell_of_row _ _ 0 _ _ _ HST.out.s.bn) (own_by HST.out.s.go).1 (nib_keep HN.out HST.out.s.fr) ⟨fun _ => rfl, HST.out⟩ ?_ ?_).mono ?_
                · rintro F t d a' c' A W2 ⟨hF, hst⟩ hfA hown ⟨F', hrun⟩
                  have h2 := hst.keep hfA
                  have hl2 := h2.lp
                  rw [hR] at hl2
                  have HS2 := Lib.hid h2
                  have HFE := Lib.hid hF
                  have HOW2 := Lib.hid hown
                  have HRUN := Lib.hid (HXM.out.trans hrun)
                  have HOX : Hid (∀ x, A.heap.size ≤ x → OffX w RZ NB WB Bn wv X ga gc L XR XA D Ds x) := Lib.hid fun x hx => hst.offx hx
                  have HA2 := Lib.hid hfA.size
                  clear hlr hlr2 hst hfA h2 hown hrun hF HST hR
                  obtain ⟨n, hn⟩ : ∃ n, n = d.length := ⟨_, rfl⟩
                  rw [← hn]
                  have HNL := Lib.hid hn
                  refine yield_wide hl2 rfl ?_
                  have HL2 := Lib.hid hl2
                  clear hl2 hn
                  gi_wp2_with fail
                  refine ⟨((Fr.refl [] W2).alloc _).obj HL2.out (by simp), ?_⟩
                  obtain ⟨XF, hXF⟩ : ∃ XF, XF = W2.heap.size := ⟨_, rfl⟩
                  rw [← hXF]
                  generalize hWb : World.putObj (World.alloc W2 _) (D + 1) _ = Wb
                  have HFX : Hid (XF = W2.heap.size) := Lib.hid hXF
                  have HOB : Hid (Wb.ownsRow A.heap.size 5 1 (.slice a' n c') n (d.map B8) ∧ Wb.heap[XF]? = some (.cells #[.int .i64 (I8 t), .slice a' n c'] 25) ∧ FgL w RZ NB WB Bn E wv X ga gc L XR r XA D Ds (R .busy none) F.length Wb) := Lib.hid (by
                    have hfa : Fr [] W2 (W2.alloc (.cells #[.int .i64 (I8 t), .slice a' n c'] 25)) := (Fr.refl _ _).alloc _
                    have hro := HOW2.out
                    rw [← HNL.out] at hro
                    have hlt : D + 1 < W2.heap.size := (Array.getElem?_eq_some_iff.1 HS2.out.lp).1
                    rw [← hWb]
                    refine ⟨own_fr (own_fr hro hfa (by simp)) ((Fr.refl [D + 1] _).putObj (by simp) _) (fun g hg hm => ?_), ?_, ?_⟩
                    · simp at hm
                      exact (HOX.out g (own_lt hro hg).1).lp hm.symm
                    · rw [World.putObj_heap_other (by omega), hXF]
                      exact heap_alloc_new W2 _
                    · have h := (HS2.out.keep hfa).putL (o' := R .busy none) (HIL.out _ _)
                      rw [HRR.out] at h ⊢
                      exact h)
                  have HGX : Hid (∀ g, (Value.slice a' n c').ownBlock = some g → g < XF) := Lib.hid fun g hg => by
                    have hro := HOW2.out
                    rw [← HNL.out] at hro
                    rw [HFX.out]
                    exact (own_lt hro hg).2
                  clear hWb hXF
                  have HSB := Lib.hid HOB.out.2.2
                  obtain ⟨hkx, gw, xa, xc, hwa, q4, q5, qb, qn⟩ := (show FgS w RZ NB WB Bn E (.slice wa X.length wc0) X ga gc L Wb by rw [← HWV.out]; exact HSB.out.s).want HRUN.out
                  obtain ⟨yr, y0, y1, yn, yf⟩ := HSB.out.cells
                  rw [HWV.out, hwa] at y1
                  rw [← HNL.out] at q5
                  have y2 := cell_of_row _ _ 0 _ _ _ HOB.out.2.1
                  have y3 := cell_of_row _ _ 1 _ _ _ HOB.out.2.1
                  simp at y2 y3
                  have y4 := q4
                  have y5 := q5
                  have HSM : Hid (∀ W, Fr [] Wb W → Calls Tryd.prog 16 #[.agg #[.int .i64 (I8 t), .slice a' n c'], .agg #[.int .i64 (I8 t), .slice xa n xc]] W fun e w' => e = .returned (.bool true) ∧ Fr [] W w') := Lib.hid fun W hW => by
                    have h := Same_any (I8 t) (I8 t) a' xa c' xc d d W (spl_none HOB.out.1) qn ((by have hb := HOB.out.1; rw [HNL.out] at hb; exact (own_by hb).1.keep hW)) (qb.keep hW)
                    rw [← HNL.out, beq_self_eq_true, beq_self_eq_true] at h
                    exact h
                  have HWA := Lib.hid hwa
                  clear q4 q5 qb qn yr yn yf hwa
                  have hki : ((F.length : Nat) : Int) < (X.length : Int) := by omega
                  have hk0 : (0 : Int) ≤ ((F.length : Nat) : Int) := by omega
                  have hke : (((F.length : Nat) : Int) == (X.length : Int)) = false := by rw [beq_eq_false_iff_ne]; omega
                  have hkn : ¬ (X.length : Int) < ((F.length : Nat) : Int) := by omega
                  gi_wp2_with fail
                  refine region_round (S := fun w' : World => w'.cell? ⟨XA, 0, none⟩ = some (.int .i64 (F.length : Nat)) ∧ w'.cell? ⟨WB, 0, none⟩ = some (.slice (some ⟨gw, 0, none⟩) X.length wc0) ∧ w'.cell? ⟨XF, 0, none⟩ = some (.int .i64 (I8 t)) ∧ w'.cell? ⟨XF, 1, none⟩ = some (.slice a' n c') ∧ w'.cell? ⟨gw, F.length * 2, none⟩ = some (.int .i64 (I8 t)) ∧ w'.cell? ⟨gw, F.length * 2 + 1, none⟩ = some (.slice xa n xc)) (by kernel_rfl) (by kernel_rfl) (by exact ⟨y0, y1, y2, y3, y4, y5⟩) (fun hHd => ?_)
                  refine wpAnyH_take (i := 0) (v := ?_) rfl (by kernel_rfl) (by kernel_rfl) (by kernel_rfl) (fun _ _ _ h => h) (Or.inl ⟨by rfl, ?_⟩) (by assumption) ?_
                  rotate_left
                  · (intro w hSw; (try dsimp only at hSw); go_simp; (try with_reducible rfl))
                  try simp only [Act.put, List.setIfInBounds_toArray, List.set_cons_zero, List.set_cons_succ, List.getElem_toArray, List.getElem_cons_zero, List.getElem_cons_succ]
                  refine wpAnyH_take (i := 1) (v := ?_) rfl (by kernel_rfl) (by kernel_rfl) (by kernel_rfl) (fun _ _ _ h => h) (Or.inl ⟨by rfl, ?_⟩) (by assumption) ?_
                  rotate_left
                  · (intro w hSw; (try dsimp only at hSw); go_simp; (try with_reducible rfl))
                  try simp only [Act.put, List.setIfInBounds_toArray, List.set_cons_zero, List.set_cons_succ, List.getElem_toArray, List.getElem_cons_zero, List.getElem_cons_succ]
                  refine wpAnyH_take (i := 2) (v := ?_) rfl (by kernel_rfl) (by kernel_rfl) (by kernel_rfl) (fun _ _ _ h => h) (Or.inl ⟨by rfl, ?_⟩) (by assumption) ?_
                  rotate_left
                  · (intro w hSw; (try dsimp only at hSw); go_simp; (try with_reducible rfl))
                  try simp only [Act.put, List.setIfInBounds_toArray, List.set_cons_zero, List.set_cons_succ, List.getElem_toArray, List.getElem_cons_zero, List.getElem_cons_succ]
                  refine wpAnyH_take (i := 3) (v := ?_) rfl (by kernel_rfl) (by kernel_rfl) (by kernel_rfl) (fun _ _ _ h => h) (Or.inl ⟨by rfl, ?_⟩) (by assumption) ?_
                  rotate_left
                  · (intro w hSw; (try dsimp only at hSw); go_simp; (try with_reducible rfl))
                  try simp only [Act.put, List.setIfInBounds_toArray, List.set_cons_zero, List.set_cons_succ, List.getElem_toArray, List.getElem_cons_zero, List.getElem_cons_succ]
                  refine wpAnyH_take (i := 4) (v := ?_) rfl (by kernel_rfl) (by kernel_rfl) (by kernel_rfl) (fun _ _ _ h => h) (Or.inl ⟨by rfl, ?_⟩) (by assumption) ?_
                  rotate_left
                  · (intro w hSw; (try dsimp only at hSw); go_simp; (try with_reducible rfl))
                  try simp only [Act.put, List.setIfInBounds_toArray, List.set_cons_zero, List.set_cons_succ, List.getElem_toArray, List.getElem_cons_zero, List.getElem_cons_succ]
                  refine wpAnyH_take (i := 5) (v := ?_) rfl (by kernel_rfl) (by kernel_rfl) (by kernel_rfl) (fun _ _ _ h => h) (Or.inl ⟨by rfl, ?_⟩) (by assumption) ?_
                  rotate_left
                  · (intro w hSw; (try dsimp only at hSw); go_simp; (try with_reducible rfl))
                  try simp only [Act.put, List.setIfInBounds_toArray, List.set_cons_zero, List.set_cons_succ, List.getElem_toArray, List.getElem_cons_zero, List.getElem_cons_succ]
                  refine wpAnyH_take (i := 6) (v := ?_) rfl (by kernel_rfl) (by kernel_rfl) (by kernel_rfl) (fun _ _ _ h => h) (Or.inl ⟨by rfl, ?_⟩) (by assumption) ?_
                  rotate_left
                  · (intro w hSw; (try dsimp only at hSw); go_simp; (try with_reducible rfl))
                  try simp only [Act.put, List.setIfInBounds_toArray, List.set_cons_zero, List.set_cons_succ, List.getElem_toArray, List.getElem_cons_zero, List.getElem_cons_succ]
                  refine wpAnyH_take (i := 7) (v := ?_) rfl (by kernel_rfl) (by kernel_rfl) (by kernel_rfl) (fun _ _ _ h => h) (Or.inl ⟨by rfl, ?_⟩) (by assumption) ?_
                  rotate_left
                  · (intro w hSw; (try dsimp only at hSw); go_simp; (try with_reducible rfl))
                  try simp only [Act.put, List.setIfInBounds_toArray, List.set_cons_zero, List.set_cons_succ, List.getElem_toArray, List.getElem_cons_zero, List.getElem_cons_succ]
                  refine wpAnyH_take (i := 8) (v := ?_) rfl (by kernel_rfl) (by kernel_rfl) (by kernel_rfl) (fun _ _ _ h => h) (Or.inl ⟨by rfl, ?_⟩) (by assumption) ?_
                  rotate_left
                  · (intro w hSw; (try dsimp only at hSw); go_simp; (try with_reducible rfl))
                  try simp only [Act.put, List.setIfInBounds_toArray, List.set_cons_zero, List.set_cons_succ, List.getElem_toArray, List.getElem_cons_zero, List.getElem_cons_succ]
                  refine wpAnyH_take (i := 9) (v := ?_) rfl (by kernel_rfl) (by kernel_rfl) (by kernel_rfl) (fun _ _ _ h => h) (Or.inl ⟨by rfl, ?_⟩) (by assumption) ?_
                  rotate_left
                  · (intro w hSw; (try dsimp only at hSw); go_simp; (try with_reducible rfl))
                  try simp only [Act.put, List.setIfInBounds_toArray, List.set_cons_zero, List.set_cons_succ, List.getElem_toArray, List.getElem_cons_zero, List.getElem_cons_succ]
                  refine wpAnyH_take (i := 10) (v := ?_) rfl (by kernel_rfl) (by kernel_rfl) (by kernel_rfl) (fun _ _ _ h => h) (Or.inl ⟨by rfl, ?_⟩) (by assumption) ?_
                  rotate_left
                  · (intro w hSw; (try dsimp only at hSw); go_simp; (try with_reducible rfl))
                  try simp only [Act.put, List.setIfInBounds_toArray, List.set_cons_zero, List.set_cons_succ, List.getElem_toArray, List.getElem_cons_zero, List.getElem_cons_succ]
                  refine wpAnyH_take (i := 11) (v := ?_) rfl (by kernel_rfl) (by kernel_rfl) (by kernel_rfl) (fun _ _ _ h => h) (Or.inl ⟨by rfl, ?_⟩) (by assumption) ?_
                  rotate_left
                  · (intro w hSw; (try dsimp only at hSw); go_simp; (try with_reducible rfl))
                  try simp only [Act.put, List.setIfInBounds_toArray, List.set_cons_zero, List.set_cons_succ, List.getElem_toArray, List.getElem_cons_zero, List.getElem_cons_succ]
                  refine wpAnyH_take (i := 12) (v := ?_) rfl (by kernel_rfl) (by kernel_rfl) (by kernel_rfl) (fun _ _ _ h => h) (Or.inl ⟨by rfl, ?_⟩) (by assumption) ?_
                  rotate_left
                  · (intro w hSw; (try dsimp only at hSw); go_simp; (try with_reducible rfl))
                  try simp only [Act.put, List.setIfInBounds_toArray, List.set_cons_zero, List.set_cons_succ, List.getElem_toArray, List.getElem_cons_zero, List.getElem_cons_succ]
                  refine wpAnyH_ready (rs := [13]) (by kernel_rfl) (by simp) ?_
                  refine AllReadyH.cons rfl (fun K hK => ?_) AllReadyH.nil
                  go_simp
                  refine (HSM.out _ ((Fr.refl [] Wb).drew)).mono ?_
                  rintro e wA ⟨rfl, hfA⟩
                  go_simp
                  refine hK.out _ _ (by exact ⟨(((Fr.refl [] Wb).drew).trans hfA).cell y0 (by simp), (((Fr.refl [] Wb).drew).trans hfA).cell y1 (by simp), (((Fr.refl [] Wb).drew).trans hfA).cell y2 (by simp), (((Fr.refl [] Wb).drew).trans hfA).cell y3 (by simp), (((Fr.refl [] Wb).drew).trans hfA).cell y4 (by simp), (((Fr.refl [] Wb).drew).trans hfA).cell y5 (by simp)⟩) (fun hHd13 => ?_)
                  clear hK K hHd
                  try simp only [Act.put, List.setIfInBounds_toArray, List.set_cons_zero, List.set_cons_succ, List.getElem_toArray, List.getElem_cons_zero, List.getElem_cons_succ]
                  refine wpAnyH_take (i := 14) (v := ?_) rfl (by kernel_rfl) (by kernel_rfl) (by kernel_rfl) (fun _ _ _ h => h) (Or.inl ⟨by rfl, ?_⟩) (by assumption) ?_
                  rotate_left
                  · (intro w hSw; (try dsimp only at hSw); go_simp; (try with_reducible rfl))
                  try simp only [Act.put, List.setIfInBounds_toArray, List.set_cons_zero, List.set_cons_succ, List.getElem_toArray, List.getElem_cons_zero, List.getElem_cons_succ]
                  refine wpAnyH_take (i := 15) (v := ?_) rfl (by kernel_rfl) (by kernel_rfl) (by kernel_rfl) (fun _ _ _ h => h) (Or.inl ⟨by rfl, ?_⟩) (by assumption) ?_
                  rotate_left
                  · (intro w hSw; (try dsimp only at hSw); go_simp; (try with_reducible rfl))
                  try simp only [Act.put, List.setIfInBounds_toArray, List.set_cons_zero, List.set_cons_succ, List.getElem_toArray, List.getElem_cons_zero, List.getElem_cons_succ]
                  refine wpAnyH_take (i := 16) (v := ?_) rfl (by kernel_rfl) (by kernel_rfl) (by kernel_rfl) (fun _ _ _ h => h) (Or.inl ⟨by rfl, ?_⟩) (by assumption) ?_
                  rotate_left
                  · (intro w hSw; (try dsimp only at hSw); go_simp; (try with_reducible rfl))
                  try simp only [Act.put, List.setIfInBounds_toArray, List.set_cons_zero, List.set_cons_succ, List.getElem_toArray, List.getElem_cons_zero, List.getElem_cons_succ]
                  refine wpAnyH_take (i := 17) (v := ?_) rfl (by kernel_rfl) (by kernel_rfl) (by kernel_rfl) (fun _ _ _ h => h) (Or.inl ⟨by rfl, ?_⟩) (by assumption) ?_
                  rotate_left
                  · (intro w hSw; (try dsimp only at hSw); go_simp; (try with_reducible rfl))
                  try simp only [Act.put, List.setIfInBounds_toArray, List.set_cons_zero, List.set_cons_succ, List.getElem_toArray, List.getElem_cons_zero, List.getElem_cons_succ]
                  refine wpAnyH_take (i := 18) (v := ?_) rfl (by kernel_rfl) (by kernel_rfl) (by kernel_rfl) (fun _ _ _ h => h) (Or.inl ⟨by rfl, ?_⟩) (by assumption) ?_
                  rotate_left
                  · (intro w hSw; (try dsimp only at hSw); go_simp; (try with_reducible rfl))
                  try simp only [Act.put, List.setIfInBounds_toArray, List.set_cons_zero, List.set_cons_succ, List.getElem_toArray, List.getElem_cons_zero, List.getElem_cons_succ]
                  refine wpAnyH_take (i := 19) (v := ?_) rfl (by kernel_rfl) (by kernel_rfl) (by kernel_rfl) (fun _ _ _ h => h) (Or.inl ⟨by rfl, ?_⟩) (by assumption) ?_
                  rotate_left
                  · (intro w hSw; (try dsimp only at hSw); go_simp; (try with_reducible rfl))
                  try simp only [Act.put, List.setIfInBounds_toArray, List.set_cons_zero, List.set_cons_succ, List.getElem_toArray, List.getElem_cons_zero, List.getElem_cons_succ]
                  refine wpAnyH_take (i := 20) (v := ?_) rfl (by kernel_rfl) (by kernel_rfl) (by kernel_rfl) (fun _ _ _ h => h) (Or.inl ⟨by rfl, ?_⟩) (by assumption) ?_
                  rotate_left
                  · (intro w hSw; (try dsimp only at hSw); go_simp; (try with_reducible rfl))
                  try simp only [Act.put, List.setIfInBounds_toArray, List.set_cons_zero, List.set_cons_succ, List.getElem_toArray, List.getElem_cons_zero, List.getElem_cons_succ]
                  refine wpAnyH_take (i := 21) (v := ?_) rfl (by kernel_rfl) (by kernel_rfl) (by kernel_rfl) (fun _ _ _ h => h) (Or.inl ⟨by rfl, ?_⟩) (by assumption) ?_
                  rotate_left
                  · (intro w hSw; (try dsimp only at hSw); go_simp; (try with_reducible rfl))
                  try simp only [Act.put, List.setIfInBounds_toArray, List.set_cons_zero, List.set_cons_succ, List.getElem_toArray, List.getElem_cons_zero, List.getElem_cons_succ]
                  refine wpAnyH_take (i := 22) (v := ?_) rfl (by kernel_rfl) (by kernel_rfl) (by kernel_rfl) (fun _ _ _ h => h) (Or.inl ⟨by rfl, ?_⟩) (by assumption) ?_
                  rotate_left
                  · (intro w hSw; (try dsimp only at hSw); go_simp; (try with_reducible rfl))
                  try simp only [Act.put, List.setIfInBounds_toArray, List.set_cons_zero, List.set_cons_succ, List.getElem_toArray, List.getElem_cons_zero, List.getElem_cons_succ]
                  refine wpAnyH_take (i := 23) (v := undef) rfl (by kernel_rfl) (by kernel_rfl) (by kernel_rfl) (fun _ _ _ h => h) (Or.inr ⟨by rfl, rfl⟩) (by assumption) ?_
                  try simp only [Act.put, List.setIfInBounds_toArray, List.set_cons_zero, List.set_cons_succ, List.getElem_toArray, List.getElem_cons_zero, List.getElem_cons_succ]
                  refine wpAnyH_take (i := 24) (v := undef) rfl (by kernel_rfl) (by kernel_rfl) (by kernel_rfl) (fun _ _ _ h => h) (Or.inr ⟨by rfl, rfl⟩) (by assumption) ?_
                  try simp only [Act.put, List.setIfInBounds_toArray, List.set_cons_zero, List.set_cons_succ, List.getElem_toArray, List.getElem_cons_zero, List.getElem_cons_succ]
                  refine wpAnyH_take (i := 25) (v := undef) rfl (by kernel_rfl) (by kernel_rfl) (by kernel_rfl) (fun _ _ _ h => h) (Or.inr ⟨by rfl, rfl⟩) (by assumption) ?_
                  try simp only [Act.put, List.setIfInBounds_toArray, List.set_cons_zero, List.set_cons_succ, List.getElem_toArray, List.getElem_cons_zero, List.getElem_cons_succ]
                  refine wpAnyH_take (i := 26) (v := undef) rfl (by kernel_rfl) (by kernel_rfl) (by kernel_rfl) (fun _ _ _ h => h) (Or.inr ⟨by rfl, rfl⟩) (by assumption) ?_
                  try simp only [Act.put, List.setIfInBounds_toArray, List.set_cons_zero, List.set_cons_succ, List.getElem_toArray, List.getElem_cons_zero, List.getElem_cons_succ]
                  refine wpAnyH_take (i := 27) (v := undef) rfl (by kernel_rfl) (by kernel_rfl) (by kernel_rfl) (fun _ _ _ h => h) (Or.inr ⟨by rfl, rfl⟩) (by assumption) ?_
                  try simp only [Act.put, List.setIfInBounds_toArray, List.set_cons_zero, List.set_cons_succ, List.getElem_toArray, List.getElem_cons_zero, List.getElem_cons_succ]
                  refine wpAnyH_take (i := 28) (v := undef) rfl (by kernel_rfl) (by kernel_rfl) (by kernel_rfl) (fun _ _ _ h => h) (Or.inr ⟨by rfl, rfl⟩) (by assumption) ?_
                  try simp only [Act.put, List.setIfInBounds_toArray, List.set_cons_zero, List.set_cons_succ, List.getElem_toArray, List.getElem_cons_zero, List.getElem_cons_succ]
                  refine wpAnyH_take (i := 29) (v := undef) rfl (by kernel_rfl) (by kernel_rfl) (by kernel_rfl) (fun _ _ _ h => h) (Or.inr ⟨by rfl, rfl⟩) (by assumption) ?_
                  try simp only [Act.put, List.setIfInBounds_toArray, List.set_cons_zero, List.set_cons_succ, List.getElem_toArray, List.getElem_cons_zero, List.getElem_cons_succ]
                  refine wpAnyH_take (i := 30) (v := undef) rfl (by kernel_rfl) (by kernel_rfl) (by kernel_rfl) (fun _ _ _ h => h) (Or.inr ⟨by rfl, rfl⟩) (by assumption) ?_
                  try simp only [Act.put, List.setIfInBounds_toArray, List.set_cons_zero, List.set_cons_succ, List.getElem_toArray, List.getElem_cons_zero, List.getElem_cons_succ]
                  refine wpAnyH_take (i := 31) (v := undef) rfl (by kernel_rfl) (by kernel_rfl) (by kernel_rfl) (fun _ _ _ h => h) (Or.inr ⟨by rfl, rfl⟩) (by assumption) ?_
                  try simp only [Act.put, List.setIfInBounds_toArray, List.set_cons_zero, List.set_cons_succ, List.getElem_toArray, List.getElem_cons_zero, List.getElem_cons_succ]
                  refine wpAnyH_take (i := 32) (v := undef) rfl (by kernel_rfl) (by kernel_rfl) (by kernel_rfl) (fun _ _ _ h => h) (Or.inr ⟨by rfl, rfl⟩) (by assumption) ?_
                  try simp only [Act.put, List.setIfInBounds_toArray, List.set_cons_zero, List.set_cons_succ, List.getElem_toArray, List.getElem_cons_zero, List.getElem_cons_succ]
                  refine wpAnyH_take (i := 33) (v := undef) rfl (by kernel_rfl) (by kernel_rfl) (by kernel_rfl) (fun _ _ _ h => h) (Or.inr ⟨by rfl, rfl⟩) (by assumption) ?_
                  try simp only [Act.put, List.setIfInBounds_toArray, List.set_cons_zero, List.set_cons_succ, List.getElem_toArray, List.getElem_cons_zero, List.getElem_cons_succ]
                  refine wpAnyH_take (i := 34) (v := undef) rfl (by kernel_rfl) (by kernel_rfl) (by kernel_rfl) (fun _ _ _ h => h) (Or.inr ⟨by rfl, rfl⟩) (by assumption) ?_
                  try simp only [Act.put, List.setIfInBounds_toArray, List.set_cons_zero, List.set_cons_succ, List.getElem_toArray, List.getElem_cons_zero, List.getElem_cons_succ]
                  refine wpAnyH_take (i := 35) (v := undef) rfl (by kernel_rfl) (by kernel_rfl) (by kernel_rfl) (fun _ _ _ h => h) (Or.inr ⟨by rfl, rfl⟩) (by assumption) ?_
                  try simp only [Act.put, List.setIfInBounds_toArray, List.set_cons_zero, List.set_cons_succ, List.getElem_toArray, List.getElem_cons_zero, List.getElem_cons_succ]
                  refine wpAnyH_take (i := 36) (v := ?_) rfl (by kernel_rfl) (by kernel_rfl) (by kernel_rfl) (fun _ _ _ h => h) (Or.inl ⟨by rfl, ?_⟩) (by assumption) ?_
                  rotate_left
                  · (intro w hSw; (try dsimp only at hSw); go_simp; (try with_reducible rfl))
                  try simp only [Act.put, List.setIfInBounds_toArray, List.set_cons_zero, List.set_cons_succ, List.getElem_toArray, List.getElem_cons_zero, List.getElem_cons_succ]
                  refine wpAnyH_take (i := 37) (v := ?_) rfl (by kernel_rfl) (by kernel_rfl) (by kernel_rfl) (fun _ _ _ h => h) (Or.inl ⟨by rfl, ?_⟩) (by assumption) ?_
                  rotate_left
                  · (intro w hSw; (try dsimp only at hSw); go_simp; (try with_reducible rfl))
                  try simp only [Act.put, List.setIfInBounds_toArray, List.set_cons_zero, List.set_cons_succ, List.getElem_toArray, List.getElem_cons_zero, List.getElem_cons_succ]
                  refine wpAnyH_take (i := 38) (v := ?_) rfl (by kernel_rfl) (by kernel_rfl) (by kernel_rfl) (fun _ _ _ h => h) (Or.inl ⟨by rfl, ?_⟩) (by assumption) ?_
                  rotate_left
                  · (intro w hSw; (try dsimp only at hSw); go_simp; (try with_reducible rfl))
                  try simp only [Act.put, List.setIfInBounds_toArray, List.set_cons_zero, List.set_cons_succ, List.getElem_toArray, List.getElem_cons_zero, List.getElem_cons_succ]
                  refine wpAnyH_take (i := 39) (v := ?_) rfl (by kernel_rfl) (by kernel_rfl) (by kernel_rfl) (fun _ _ _ h => h) (Or.inl ⟨by rfl, ?_⟩) (by assumption) ?_
                  rotate_left
                  · (intro w hSw; (try dsimp only at hSw); go_simp; (try with_reducible rfl))
                  try simp only [Act.put, List.setIfInBounds_toArray, List.set_cons_zero, List.set_cons_succ, List.getElem_toArray, List.getElem_cons_zero, List.getElem_cons_succ]
                  refine wpAnyH_take (i := 40) (v := ?_) rfl (by kernel_rfl) (by kernel_rfl) (by kernel_rfl) (fun _ _ _ h => h) (Or.inl ⟨by rfl, ?_⟩) (by assumption) ?_
                  rotate_left
                  · (intro w hSw; (try dsimp only at hSw); go_simp; (try with_reducible rfl))
                  try simp only [Act.put, List.setIfInBounds_toArray, List.set_cons_zero, List.set_cons_succ, List.getElem_toArray, List.getElem_cons_zero, List.getElem_cons_succ]
                  refine wpAnyH_take (i := 41) (v := ?_) rfl (by kernel_rfl) (by kernel_rfl) (by kernel_rfl) (fun _ _ _ h => h) (Or.inl ⟨by rfl, ?_⟩) (by assumption) ?_
                  rotate_left
                  · (intro w hSw; (try dsimp only at hSw); go_simp; (try with_reducible rfl))
                  try simp only [Act.put, List.setIfInBounds_toArray, List.set_cons_zero, List.set_cons_succ, List.getElem_toArray, List.getElem_cons_zero, List.getElem_cons_succ]
                  refine wpAnyH_take (i := 42) (v := ?_) rfl (by kernel_rfl) (by kernel_rfl) (by kernel_rfl) (fun _ _ _ h => h) (Or.inl ⟨by rfl, ?_⟩) (by assumption) ?_
                  rotate_left
                  · (intro w hSw; (try dsimp only at hSw); go_simp; (try with_reducible rfl))
                  try simp only [Act.put, List.setIfInBounds_toArray, List.set_cons_zero, List.set_cons_succ, List.getElem_toArray, List.getElem_cons_zero, List.getElem_cons_succ]
                  refine wpAnyH_take (i := 43) (v := ?_) rfl (by kernel_rfl) (by kernel_rfl) (by kernel_rfl) (fun _ _ _ h => h) (Or.inl ⟨by rfl, ?_⟩) (by assumption) ?_
                  rotate_left
                  · (intro w hSw; (try dsimp only at hSw); go_simp; (try with_reducible rfl))
                  try simp only [Act.put, List.setIfInBounds_toArray, List.set_cons_zero, List.set_cons_succ, List.getElem_toArray, List.getElem_cons_zero, List.getElem_cons_succ]
                  refine wpAnyH_done (by kernel_rfl) ?_ _
                  refine NoOut.normal ?_
                  have hfq : Fr [] Wb wA := ((Fr.refl [] Wb).drew).trans hfA
                  have HSQ := Lib.hid (HSB.out.keep hfq)
                  have HXQ := Lib.hid (hfq.obj HOB.out.2.1 (by simp))
                  have HOQ := Lib.hid (OwnB.keep (⟨d, HNL.out.symm, HOB.out.1⟩ : OwnB Wb A.heap.size (.slice a' n c') n) hfq (by simp))
                  have HNM : Hid (n ≤ 9223372036854775807) := Lib.hid (own_maxG HOB.out.1)
                  have z3 := cell_of_row _ _ 1 _ _ _ HXQ.out
                  simp at z3
                  clear hfA hfq y0 y1 y2 y3 y4 y5 hki hk0 hke hkn
                  gi_wp2_with fail
                  gi_loopw [108] (fun i wx => ∃ k2 : Nat, k2 ≤ n ∧ i = .int .i64 k2 ∧ FgL w RZ NB WB Bn E wv X ga gc L XR r XA D Ds (R .busy none) F.length wx ∧ wx.heap[XF]? = some (.cells #[.int .i64 (I8 t), .slice a' n c'] 25) ∧ OwnB wx A.heap.size (.slice a' n c') n) (fun i _ => n - (intOf i).toNat)
                  case atStart => exact ⟨0, by omega, rfl, HSQ.out, HXQ.out, HOQ.out⟩
                  case round =>
                    obtain ⟨k3, hk3, rfl, hs3, hx3, ho3⟩ := hrel
                    have HS3 := Lib.hid hs3
                    have HX3 := Lib.hid hx3
                    have HO3 := Lib.hid ho3
                    have hnm := HNM.out
                    clear hs3 hx3 ho3 HSQ HXQ HOQ z3
                    have z3 := cell_of_row _ _ 1 _ _ _ HX3.out
                    simp at z3
                    by_cases hlt3 : k3 < n
                    · obtain ⟨gf, hgf, hgA, -⟩ := HO3.out.addr (by omega)
                      subst hgf
                      obtain ⟨⟨y, hy⟩, hz⟩ := HO3.out.cell hlt3
                      have hki3 : (k3 : Int) < (n : Int) := by omega
                      have hk03 : (0 : Int) ≤ (k3 : Int) := by omega
                      have e3 : IntKind.i64.wrap ((k3 : Int) + 1) = (k3 : Int) + 1 := IntWalk.i64_in _ (by omega)
                      have HNX := Lib.hid (HS3.out.frx (HOX.out gf hgA) ((Fr.refl [gf] wr).setCell (p := ⟨gf, k3, none⟩) (by simp) (.int .u8 221)))
                      have HXX := Lib.hid (((Fr.refl [gf] wr).setCell (p := ⟨gf, k3, none⟩) (by simp) (.int .u8 221)).obj HX3.out (by simp; have := HGX.out gf rfl; omega))
                      gi_wp2_with fail
                      go_roundw
                      case rel => exact ⟨k3 + 1, by omega, by go_num, HNX.out, HXX.out, HO3.out.setN k3 221 (by decide)⟩
                      case measure => simp [intOf] <;> omega
                    · have hki3 : ¬ (k3 : Int) < (n : Int) := by omega
                      obtain ⟨v0, v1, v2, -, v4⟩ := HS3.out.cells
                      have hxa : XA < wr.heap.size := (Array.getElem?_eq_some_iff.1 HS3.out.xa).1
                      have ek : IntKind.i64.wrap (((F.length : Nat) : Int) + 1) = ((F.length : Nat) : Int) + 1 := IntWalk.i64_in _ (by have := HXB.out; omega)
                      have HNA := Lib.hid (HS3.out.setA (F.length + 1))
                      have v5 := HNA.out.cells.1
                      rw [show ((F.length + 1 : Nat) : Int) = ((F.length : Nat) : Int) + 1 by omega] at v5
                      by_cases hr1 : r = 1
                      · have hri1 : ((r : Int) == 1) = true := by rw [beq_iff_eq]; omega
                        have HR1 := Lib.hid hr1
                        have HF0 : Hid (F.length = 0) := Lib.hid (by rw [HFE.out hr1]; rfl)
                        clear hr1
                        gi_wp2_with fail
                        rw [← HRR.out, show ((F.length : Nat) : Int) + 1 = ((F.length + 1 : Nat) : Int) by omega]
                        refine ⟨HNA.out.lp, .inr ⟨rfl, HR1.out, by omega, ?_⟩⟩
                        have h := HNA.out.putL (o' := R .done (some (.exit 4))) (HIL.out _ _)
                        rw [HF0.out] at h ⊢
                        exact h
                      · have hri1 : ((r : Int) == 1) = false := by rw [beq_eq_false_iff_ne]; omega
                        have HR1 := Lib.hid hr1
                        clear hr1
                        gi_wp2_with fail
                        rw [← HRR.out, show ((F.length : Nat) : Int) + 1 = ((F.length + 1 : Nat) : Int) by omega]
                        have h := HNA.out.putL (o' := R .ready none) (HIL.out _ _)
                        refine ⟨HNA.out.lp, .inl ⟨rfl, ⟨fun h1 => absurd h1 HR1.out, ?_⟩, (own_by h.s.go).1, nib_keep HN.out h.s.fr⟩⟩
                        exact h
                · rintro A W2 a' c' ⟨hF, hst⟩ hfA hne hno2
                  rw [← HXL.out] at hst
                  have hXE : r = 1 → X.length = 0 := fun h => by rw [HXL.out, hF h]; rfl
                  have h2 := hst.keep hfA
                  have hl2 := h2.lp
                  rw [hR] at hl2
                  rw [← HEE.out] at hne ⊢
                  have HS2 := Lib.hid h2
                  have HFE := Lib.hid hXE
                  have HNO2 := Lib.hid hno2
                  clear hlr hlr2 hst hfA h2 hF hXE HST hR hno2
                  refine yield_wide hl2 rfl ?_
                  have HL2 := Lib.hid hl2
                  clear hl2
                  have HNE := Lib.hid hne
                  clear hne
                  gi_wp2_with fail
                  refine ⟨((Fr.refl [] W2).alloc _).obj HL2.out (by simp), ?_⟩
                  obtain ⟨XF, hXF⟩ : ∃ XF, XF = W2.heap.size := ⟨_, rfl⟩
                  rw [← hXF]
                  generalize hWb : World.putObj (World.alloc W2 _) (D + 1) _ = Wb
                  have HOB : Hid (Wb.heap[XF]? = some (.cells #[.int .i64 0, .slice a' 0 c'] 25) ∧ FgL w RZ NB WB Bn E wv X ga gc L XR r XA D Ds (R .busy none) X.length Wb) := Lib.hid (by
                    have hfa : Fr [] W2 (W2.alloc (.cells #[.int .i64 0, .slice a' 0 c'] 25)) := (Fr.refl _ _).alloc _
                    have hlt : D + 1 < W2.heap.size := (Array.getElem?_eq_some_iff.1 HS2.out.lp).1
                    rw [← hWb]
                    refine ⟨?_, ?_⟩
                    · rw [World.putObj_heap_other (by omega), hXF]
                      exact heap_alloc_new W2 _
                    · have h := (HS2.out.keep hfa).putL (o' := R .busy none) (HIL.out _ _)
                      rw [HRR.out] at h ⊢
                      exact h)
                  clear hWb hXF
                  have HSB := Lib.hid HOB.out.2
                  obtain ⟨yr, y0, y1, y4, yf⟩ := HSB.out.cells
                  rw [HWV.out] at y1
                  have y2 := cell_of_row _ _ 0 _ _ _ HOB.out.1
                  have y3 := cell_of_row _ _ 1 _ _ _ HOB.out.1
                  simp at y2 y3
                  have HSM : Hid (∀ W, Fr [] Wb W → Calls Tryd.prog 16 #[.agg #[.int .i64 0, .slice a' 0 c'], .agg #[.int .i64 0, .slice none 0 0]] W fun e w' => e = .returned (.bool true) ∧ Fr [] W w') := Lib.hid fun W hW => by
                    have h := Same_any 0 0 a' none c' 0 [] [] W HNO2.out (fun _ => rfl) (Bytes.nil _ _) (Bytes.nil _ _)
                    exact h
                  clear yr yf
                  have hki : ¬ (X.length : Int) < (X.length : Int) := by omega
                  have hke : ((X.length : Int) == (X.length : Int)) = true := by simp
                  have hen : (E == 0) = false := by rw [beq_eq_false_iff_ne]; exact HNE.out
                  have hee : (E != E) = false := by simp
                  gi_wp2_with fail
                  refine region_round (S := fun w' : World => w'.cell? ⟨XA, 0, none⟩ = some (.int .i64 (X.length : Nat)) ∧ w'.cell? ⟨WB, 0, none⟩ = some (.slice wa X.length wc0) ∧ w'.cell? ⟨XF, 0, none⟩ = some (.int .i64 0) ∧ w'.cell? ⟨XF, 1, none⟩ = some (.slice a' 0 c') ∧ w'.cell? ⟨NB, 0, none⟩ = some (.int .i64 E)) (by kernel_rfl) (by kernel_rfl) (by exact ⟨y0, y1, y2, y3, y4⟩) (fun hHd => ?_)
                  refine wpAnyH_take (i := 0) (v := ?_) rfl (by kernel_rfl) (by kernel_rfl) (by kernel_rfl) (fun _ _ _ h => h) (Or.inl ⟨by rfl, ?_⟩) (by assumption) ?_
                  rotate_left
                  · (intro w hSw; (try dsimp only at hSw); go_simp; (try with_reducible rfl))
                  try simp only [Act.put, List.setIfInBounds_toArray, List.set_cons_zero, List.set_cons_succ, List.getElem_toArray, List.getElem_cons_zero, List.getElem_cons_succ]
                  refine wpAnyH_take (i := 1) (v := ?_) rfl (by kernel_rfl) (by kernel_rfl) (by kernel_rfl) (fun _ _ _ h => h) (Or.inl ⟨by rfl, ?_⟩) (by assumption) ?_
                  rotate_left
                  · (intro w hSw; (try dsimp only at hSw); go_simp; (try with_reducible rfl))
                  try simp only [Act.put, List.setIfInBounds_toArray, List.set_cons_zero, List.set_cons_succ, List.getElem_toArray, List.getElem_cons_zero, List.getElem_cons_succ]
                  refine wpAnyH_take (i := 2) (v := ?_) rfl (by kernel_rfl) (by kernel_rfl) (by kernel_rfl) (fun _ _ _ h => h) (Or.inl ⟨by rfl, ?_⟩) (by assumption) ?_
                  rotate_left
                  · (intro w hSw; (try dsimp only at hSw); go_simp; (try with_reducible rfl))
                  try simp only [Act.put, List.setIfInBounds_toArray, List.set_cons_zero, List.set_cons_succ, List.getElem_toArray, List.getElem_cons_zero, List.getElem_cons_succ]
                  refine wpAnyH_take (i := 3) (v := ?_) rfl (by kernel_rfl) (by kernel_rfl) (by kernel_rfl) (fun _ _ _ h => h) (Or.inl ⟨by rfl, ?_⟩) (by assumption) ?_
                  rotate_left
                  · (intro w hSw; (try dsimp only at hSw); go_simp; (try with_reducible rfl))
                  try simp only [Act.put, List.setIfInBounds_toArray, List.set_cons_zero, List.set_cons_succ, List.getElem_toArray, List.getElem_cons_zero, List.getElem_cons_succ]
                  refine wpAnyH_take (i := 4) (v := ?_) rfl (by kernel_rfl) (by kernel_rfl) (by kernel_rfl) (fun _ _ _ h => h) (Or.inl ⟨by rfl, ?_⟩) (by assumption) ?_
                  rotate_left
                  · (intro w hSw; (try dsimp only at hSw); go_simp; (try with_reducible rfl))
                  try simp only [Act.put, List.setIfInBounds_toArray, List.set_cons_zero, List.set_cons_succ, List.getElem_toArray, List.getElem_cons_zero, List.getElem_cons_succ]
                  refine wpAnyH_take (i := 5) (v := undef) rfl (by kernel_rfl) (by kernel_rfl) (by kernel_rfl) (fun _ _ _ h => h) (Or.inr ⟨by rfl, rfl⟩) (by assumption) ?_
                  try simp only [Act.put, List.setIfInBounds_toArray, List.set_cons_zero, List.set_cons_succ, List.getElem_toArray, List.getElem_cons_zero, List.getElem_cons_succ]
                  refine wpAnyH_take (i := 6) (v := undef) rfl (by kernel_rfl) (by kernel_rfl) (by kernel_rfl) (fun _ _ _ h => h) (Or.inr ⟨by rfl, rfl⟩) (by assumption) ?_
                  try simp only [Act.put, List.setIfInBounds_toArray, List.set_cons_zero, List.set_cons_succ, List.getElem_toArray, List.getElem_cons_zero, List.getElem_cons_succ]
                  refine wpAnyH_take (i := 7) (v := undef) rfl (by kernel_rfl) (by kernel_rfl) (by kernel_rfl) (fun _ _ _ h => h) (Or.inr ⟨by rfl, rfl⟩) (by assumption) ?_
                  try simp only [Act.put, List.setIfInBounds_toArray, List.set_cons_zero, List.set_cons_succ, List.getElem_toArray, List.getElem_cons_zero, List.getElem_cons_succ]
                  refine wpAnyH_take (i := 8) (v := undef) rfl (by kernel_rfl) (by kernel_rfl) (by kernel_rfl) (fun _ _ _ h => h) (Or.inr ⟨by rfl, rfl⟩) (by assumption) ?_
                  try simp only [Act.put, List.setIfInBounds_toArray, List.set_cons_zero, List.set_cons_succ, List.getElem_toArray, List.getElem_cons_zero, List.getElem_cons_succ]
                  refine wpAnyH_take (i := 9) (v := undef) rfl (by kernel_rfl) (by kernel_rfl) (by kernel_rfl) (fun _ _ _ h => h) (Or.inr ⟨by rfl, rfl⟩) (by assumption) ?_
                  try simp only [Act.put, List.setIfInBounds_toArray, List.set_cons_zero, List.set_cons_succ, List.getElem_toArray, List.getElem_cons_zero, List.getElem_cons_succ]
                  refine wpAnyH_take (i := 10) (v := undef) rfl (by kernel_rfl) (by kernel_rfl) (by kernel_rfl) (fun _ _ _ h => h) (Or.inr ⟨by rfl, rfl⟩) (by assumption) ?_
                  try simp only [Act.put, List.setIfInBounds_toArray, List.set_cons_zero, List.set_cons_succ, List.getElem_toArray, List.getElem_cons_zero, List.getElem_cons_succ]
                  refine wpAnyH_take (i := 11) (v := undef) rfl (by kernel_rfl) (by kernel_rfl) (by kernel_rfl) (fun _ _ _ h => h) (Or.inr ⟨by rfl, rfl⟩) (by assumption) ?_
                  try simp only [Act.put, List.setIfInBounds_toArray, List.set_cons_zero, List.set_cons_succ, List.getElem_toArray, List.getElem_cons_zero, List.getElem_cons_succ]
                  refine wpAnyH_take (i := 12) (v := undef) rfl (by kernel_rfl) (by kernel_rfl) (by kernel_rfl) (fun _ _ _ h => h) (Or.inr ⟨by rfl, rfl⟩) (by assumption) ?_
                  try simp only [Act.put, List.setIfInBounds_toArray, List.set_cons_zero, List.set_cons_succ, List.getElem_toArray, List.getElem_cons_zero, List.getElem_cons_succ]
                  refine wpAnyH_take (i := 13) (v := undef) rfl (by kernel_rfl) (by kernel_rfl) (by kernel_rfl) (fun _ _ _ h => h) (Or.inr ⟨by rfl, rfl⟩) (by assumption) ?_
                  try simp only [Act.put, List.setIfInBounds_toArray, List.set_cons_zero, List.set_cons_succ, List.getElem_toArray, List.getElem_cons_zero, List.getElem_cons_succ]
                  refine wpAnyH_take (i := 14) (v := undef) rfl (by kernel_rfl) (by kernel_rfl) (by kernel_rfl) (fun _ _ _ h => h) (Or.inr ⟨by rfl, rfl⟩) (by assumption) ?_
                  try simp only [Act.put, List.setIfInBounds_toArray, List.set_cons_zero, List.set_cons_succ, List.getElem_toArray, List.getElem_cons_zero, List.getElem_cons_succ]
                  refine wpAnyH_take (i := 15) (v := undef) rfl (by kernel_rfl) (by kernel_rfl) (by kernel_rfl) (fun _ _ _ h => h) (Or.inr ⟨by rfl, rfl⟩) (by assumption) ?_
                  try simp only [Act.put, List.setIfInBounds_toArray, List.set_cons_zero, List.set_cons_succ, List.getElem_toArray, List.getElem_cons_zero, List.getElem_cons_succ]
                  refine wpAnyH_take (i := 16) (v := ?_) rfl (by kernel_rfl) (by kernel_rfl) (by kernel_rfl) (fun _ _ _ h => h) (Or.inl ⟨by rfl, ?_⟩) (by assumption) ?_
                  rotate_left
                  · (intro w hSw; (try dsimp only at hSw); go_simp; (try with_reducible rfl))
                  try simp only [Act.put, List.setIfInBounds_toArray, List.set_cons_zero, List.set_cons_succ, List.getElem_toArray, List.getElem_cons_zero, List.getElem_cons_succ]
                  refine wpAnyH_take (i := 17) (v := ?_) rfl (by kernel_rfl) (by kernel_rfl) (by kernel_rfl) (fun _ _ _ h => h) (Or.inl ⟨by rfl, ?_⟩) (by assumption) ?_
                  rotate_left
                  · (intro w hSw; (try dsimp only at hSw); go_simp; (try with_reducible rfl))
                  try simp only [Act.put, List.setIfInBounds_toArray, List.set_cons_zero, List.set_cons_succ, List.getElem_toArray, List.getElem_cons_zero, List.getElem_cons_succ]
                  refine wpAnyH_take (i := 18) (v := ?_) rfl (by kernel_rfl) (by kernel_rfl) (by kernel_rfl) (fun _ _ _ h => h) (Or.inl ⟨by rfl, ?_⟩) (by assumption) ?_
                  rotate_left
                  · (intro w hSw; (try dsimp only at hSw); go_simp; (try with_reducible rfl))
                  try simp only [Act.put, List.setIfInBounds_toArray, List.set_cons_zero, List.set_cons_succ, List.getElem_toArray, List.getElem_cons_zero, List.getElem_cons_succ]
                  refine wpAnyH_take (i := 19) (v := ?_) rfl (by kernel_rfl) (by kernel_rfl) (by kernel_rfl) (fun _ _ _ h => h) (Or.inl ⟨by rfl, ?_⟩) (by assumption) ?_
                  rotate_left
                  · (intro w hSw; (try dsimp only at hSw); go_simp; (try with_reducible rfl))
                  try simp only [Act.put, List.setIfInBounds_toArray, List.set_cons_zero, List.set_cons_succ, List.getElem_toArray, List.getElem_cons_zero, List.getElem_cons_succ]
                  refine wpAnyH_take (i := 20) (v := ?_) rfl (by kernel_rfl) (by kernel_rfl) (by kernel_rfl) (fun _ _ _ h => h) (Or.inl ⟨by rfl, ?_⟩) (by assumption) ?_
                  rotate_left
                  · (intro w hSw; (try dsimp only at hSw); go_simp; (try with_reducible rfl))
                  try simp only [Act.put, List.setIfInBounds_toArray, List.set_cons_zero, List.set_cons_succ, List.getElem_toArray, List.getElem_cons_zero, List.getElem_cons_succ]
                  refine wpAnyH_take (i := 21) (v := ?_) rfl (by kernel_rfl) (by kernel_rfl) (by kernel_rfl) (fun _ _ _ h => h) (Or.inl ⟨by rfl, ?_⟩) (by assumption) ?_
                  rotate_left
                  · (intro w hSw; (try dsimp only at hSw); go_simp; (try with_reducible rfl))
                  try simp only [Act.put, List.setIfInBounds_toArray, List.set_cons_zero, List.set_cons_succ, List.getElem_toArray, List.getElem_cons_zero, List.getElem_cons_succ]
                  refine wpAnyH_take (i := 22) (v := ?_) rfl (by kernel_rfl) (by kernel_rfl) (by kernel_rfl) (fun _ _ _ h => h) (Or.inl ⟨by rfl, ?_⟩) (by assumption) ?_
                  rotate_left
                  · (intro w hSw; (try dsimp only at hSw); go_simp; (try with_reducible rfl))
                  try simp only [Act.put, List.setIfInBounds_toArray, List.set_cons_zero, List.set_cons_succ, List.getElem_toArray, List.getElem_cons_zero, List.getElem_cons_succ]
                  refine wpAnyH_take (i := 23) (v := ?_) rfl (by kernel_rfl) (by kernel_rfl) (by kernel_rfl) (fun _ _ _ h => h) (Or.inl ⟨by rfl, ?_⟩) (by assumption) ?_
                  rotate_left
                  · (intro w hSw; (try dsimp only at hSw); go_simp; (try with_reducible rfl))
                  try simp only [Act.put, List.setIfInBounds_toArray, List.set_cons_zero, List.set_cons_succ, List.getElem_toArray, List.getElem_cons_zero, List.getElem_cons_succ]
                  refine wpAnyH_take (i := 24) (v := ?_) rfl (by kernel_rfl) (by kernel_rfl) (by kernel_rfl) (fun _ _ _ h => h) (Or.inl ⟨by rfl, ?_⟩) (by assumption) ?_
                  rotate_left
                  · (intro w hSw; (try dsimp only at hSw); go_simp; (try with_reducible rfl))
                  try simp only [Act.put, List.setIfInBounds_toArray, List.set_cons_zero, List.set_cons_succ, List.getElem_toArray, List.getElem_cons_zero, List.getElem_cons_succ]
                  refine wpAnyH_take (i := 25) (v := ?_) rfl (by kernel_rfl) (by kernel_rfl) (by kernel_rfl) (fun _ _ _ h => h) (Or.inl ⟨by rfl, ?_⟩) (by assumption) ?_
                  rotate_left
                  · (intro w hSw; (try dsimp only at hSw); go_simp; (try with_reducible rfl))
                  try simp only [Act.put, List.setIfInBounds_toArray, List.set_cons_zero, List.set_cons_succ, List.getElem_toArray, List.getElem_cons_zero, List.getElem_cons_succ]
                  refine wpAnyH_take (i := 26) (v := ?_) rfl (by kernel_rfl) (by kernel_rfl) (by kernel_rfl) (fun _ _ _ h => h) (Or.inl ⟨by rfl, ?_⟩) (by assumption) ?_
                  rotate_left
                  · (intro w hSw; (try dsimp only at hSw); go_simp; (try with_reducible rfl))
                  try simp only [Act.put, List.setIfInBounds_toArray, List.set_cons_zero, List.set_cons_succ, List.getElem_toArray, List.getElem_cons_zero, List.getElem_cons_succ]
                  refine wpAnyH_take (i := 27) (v := ?_) rfl (by kernel_rfl) (by kernel_rfl) (by kernel_rfl) (fun _ _ _ h => h) (Or.inl ⟨by rfl, ?_⟩) (by assumption) ?_
                  rotate_left
                  · (intro w hSw; (try dsimp only at hSw); go_simp; (try with_reducible rfl))
                  try simp only [Act.put, List.setIfInBounds_toArray, List.set_cons_zero, List.set_cons_succ, List.getElem_toArray, List.getElem_cons_zero, List.getElem_cons_succ]
                  refine wpAnyH_take (i := 28) (v := ?_) rfl (by kernel_rfl) (by kernel_rfl) (by kernel_rfl) (fun _ _ _ h => h) (Or.inl ⟨by rfl, ?_⟩) (by assumption) ?_
                  rotate_left
                  · (intro w hSw; (try dsimp only at hSw); go_simp; (try with_reducible rfl))
                  try simp only [Act.put, List.setIfInBounds_toArray, List.set_cons_zero, List.set_cons_succ, List.getElem_toArray, List.getElem_cons_zero, List.getElem_cons_succ]
                  refine wpAnyH_take (i := 29) (v := ?_) rfl (by kernel_rfl) (by kernel_rfl) (by kernel_rfl) (fun _ _ _ h => h) (Or.inl ⟨by rfl, ?_⟩) (by assumption) ?_
                  rotate_left
                  · (intro w hSw; (try dsimp only at hSw); go_simp; (try with_reducible rfl))
                  try simp only [Act.put, List.setIfInBounds_toArray, List.set_cons_zero, List.set_cons_succ, List.getElem_toArray, List.getElem_cons_zero, List.getElem_cons_succ]
                  refine wpAnyH_take (i := 30) (v := ?_) rfl (by kernel_rfl) (by kernel_rfl) (by kernel_rfl) (fun _ _ _ h => h) (Or.inl ⟨by rfl, ?_⟩) (by assumption) ?_
                  rotate_left
                  · (intro w hSw; (try dsimp only at hSw); go_simp; (try with_reducible rfl))
                  try simp only [Act.put, List.setIfInBounds_toArray, List.set_cons_zero, List.set_cons_succ, List.getElem_toArray, List.getElem_cons_zero, List.getElem_cons_succ]
                  refine wpAnyH_take (i := 31) (v := ?_) rfl (by kernel_rfl) (by kernel_rfl) (by kernel_rfl) (fun _ _ _ h => h) (Or.inl ⟨by rfl, ?_⟩) (by assumption) ?_
                  rotate_left
                  · (intro w hSw; (try dsimp only at hSw); go_simp; (try with_reducible rfl))
                  try simp only [Act.put, List.setIfInBounds_toArray, List.set_cons_zero, List.set_cons_succ, List.getElem_toArray, List.getElem_cons_zero, List.getElem_cons_succ]
                  refine wpAnyH_take (i := 32) (v := ?_) rfl (by kernel_rfl) (by kernel_rfl) (by kernel_rfl) (fun _ _ _ h => h) (Or.inl ⟨by rfl, ?_⟩) (by assumption) ?_
                  rotate_left
                  · (intro w hSw; (try dsimp only at hSw); go_simp; (try with_reducible rfl))
                  try simp only [Act.put, List.setIfInBounds_toArray, List.set_cons_zero, List.set_cons_succ, List.getElem_toArray, List.getElem_cons_zero, List.getElem_cons_succ]
                  refine wpAnyH_ready (rs := [33]) (by kernel_rfl) (by simp) ?_
                  refine AllReadyH.cons rfl (fun K hK => ?_) AllReadyH.nil
                  go_simp
                  refine (HSM.out _ ((Fr.refl [] Wb).drew)).mono ?_
                  rintro e wA ⟨rfl, hfA⟩
                  go_simp
                  refine hK.out _ _ (by exact ⟨(((Fr.refl [] Wb).drew).trans hfA).cell y0 (by simp), (((Fr.refl [] Wb).drew).trans hfA).cell y1 (by simp), (((Fr.refl [] Wb).drew).trans hfA).cell y2 (by simp), (((Fr.refl [] Wb).drew).trans hfA).cell y3 (by simp), (((Fr.refl [] Wb).drew).trans hfA).cell y4 (by simp)⟩) (fun hHd33 => ?_)
                  clear hK K hHd
                  try simp only [Act.put, List.setIfInBounds_toArray, List.set_cons_zero, List.set_cons_succ, List.getElem_toArray, List.getElem_cons_zero, List.getElem_cons_succ]
                  refine wpAnyH_take (i := 34) (v := ?_) rfl (by kernel_rfl) (by kernel_rfl) (by kernel_rfl) (fun _ _ _ h => h) (Or.inl ⟨by rfl, ?_⟩) (by assumption) ?_
                  rotate_left
                  · (intro w hSw; (try dsimp only at hSw); go_simp; (try with_reducible rfl))
                  try simp only [Act.put, List.setIfInBounds_toArray, List.set_cons_zero, List.set_cons_succ, List.getElem_toArray, List.getElem_cons_zero, List.getElem_cons_succ]
                  refine wpAnyH_take (i := 35) (v := ?_) rfl (by kernel_rfl) (by kernel_rfl) (by kernel_rfl) (fun _ _ _ h => h) (Or.inl ⟨by rfl, ?_⟩) (by assumption) ?_
                  rotate_left
                  · (intro w hSw; (try dsimp only at hSw); go_simp; (try with_reducible rfl))
                  try simp only [Act.put, List.setIfInBounds_toArray, List.set_cons_zero, List.set_cons_succ, List.getElem_toArray, List.getElem_cons_zero, List.getElem_cons_succ]
                  refine wpAnyH_take (i := 36) (v := ?_) rfl (by kernel_rfl) (by kernel_rfl) (by kernel_rfl) (fun _ _ _ h => h) (Or.inl ⟨by rfl, ?_⟩) (by assumption) ?_
                  rotate_left
                  · (intro w hSw; (try dsimp only at hSw); go_simp; (try with_reducible rfl))
                  try simp only [Act.put, List.setIfInBounds_toArray, List.set_cons_zero, List.set_cons_succ, List.getElem_toArray, List.getElem_cons_zero, List.getElem_cons_succ]
                  refine wpAnyH_take (i := 37) (v := ?_) rfl (by kernel_rfl) (by kernel_rfl) (by kernel_rfl) (fun _ _ _ h => h) (Or.inl ⟨by rfl, ?_⟩) (by assumption) ?_
                  rotate_left
                  · (intro w hSw; (try dsimp only at hSw); go_simp; (try with_reducible rfl))
                  try simp only [Act.put, List.setIfInBounds_toArray, List.set_cons_zero, List.set_cons_succ, List.getElem_toArray, List.getElem_cons_zero, List.getElem_cons_succ]
                  refine wpAnyH_take (i := 38) (v := ?_) rfl (by kernel_rfl) (by kernel_rfl) (by kernel_rfl) (fun _ _ _ h => h) (Or.inl ⟨by rfl, ?_⟩) (by assumption) ?_
                  rotate_left
                  · (intro w hSw; (try dsimp only at hSw); go_simp; (try with_reducible rfl))
                  try simp only [Act.put, List.setIfInBounds_toArray, List.set_cons_zero, List.set_cons_succ, List.getElem_toArray, List.getElem_cons_zero, List.getElem_cons_succ]
                  refine wpAnyH_take (i := 39) (v := ?_) rfl (by kernel_rfl) (by kernel_rfl) (by kernel_rfl) (fun _ _ _ h => h) (Or.inl ⟨by rfl, ?_⟩) (by assumption) ?_
                  rotate_left
                  · (intro w hSw; (try dsimp only at hSw); go_simp; (try with_reducible rfl))
                  try simp only [Act.put, List.setIfInBounds_toArray, List.set_cons_zero, List.set_cons_succ, List.getElem_toArray, List.getElem_cons_zero, List.getElem_cons_succ]
                  refine wpAnyH_take (i := 40) (v := ?_) rfl (by kernel_rfl) (by kernel_rfl) (by kernel_rfl) (fun _ _ _ h => h) (Or.inl ⟨by rfl, ?_⟩) (by assumption) ?_
                  rotate_left
                  · (intro w hSw; (try dsimp only at hSw); go_simp; (try with_reducible rfl))
                  try simp only [Act.put, List.setIfInBounds_toArray, List.set_cons_zero, List.set_cons_succ, List.getElem_toArray, List.getElem_cons_zero, List.getElem_cons_succ]
                  refine wpAnyH_take (i := 41) (v := ?_) rfl (by kernel_rfl) (by kernel_rfl) (by kernel_rfl) (fun _ _ _ h => h) (Or.inl ⟨by rfl, ?_⟩) (by assumption) ?_
                  rotate_left
                  · (intro w hSw; (try dsimp only at hSw); go_simp; (try with_reducible rfl))
                  try simp only [Act.put, List.setIfInBounds_toArray, List.set_cons_zero, List.set_cons_succ, List.getElem_toArray, List.getElem_cons_zero, List.getElem_cons_succ]
                  refine wpAnyH_take (i := 42) (v := ?_) rfl (by kernel_rfl) (by kernel_rfl) (by kernel_rfl) (fun _ _ _ h => h) (Or.inl ⟨by rfl, ?_⟩) (by assumption) ?_
                  rotate_left
                  · (intro w hSw; (try dsimp only at hSw); go_simp; (try with_reducible rfl))
                  try simp only [Act.put, List.setIfInBounds_toArray, List.set_cons_zero, List.set_cons_succ, List.getElem_toArray, List.getElem_cons_zero, List.getElem_cons_succ]
                  refine wpAnyH_take (i := 43) (v := ?_) rfl (by kernel_rfl) (by kernel_rfl) (by kernel_rfl) (fun _ _ _ h => h) (Or.inl ⟨by rfl, ?_⟩) (by assumption) ?_
                  rotate_left
                  · (intro w hSw; (try dsimp only at hSw); go_simp; (try with_reducible rfl))
                  try simp only [Act.put, List.setIfInBounds_toArray, List.set_cons_zero, List.set_cons_succ, List.getElem_toArray, List.getElem_cons_zero, List.getElem_cons_succ]
                  refine wpAnyH_done (by kernel_rfl) ?_ _
                  refine NoOut.normal ?_
                  have hfq : Fr [] Wb wA := ((Fr.refl [] Wb).drew).trans hfA
                  have HSQ := Lib.hid (HSB.out.keep hfq)
                  have HXQ := Lib.hid (hfq.obj HOB.out.1 (by simp))
                  have z3 := cell_of_row _ _ 1 _ _ _ HXQ.out
                  simp at z3
                  clear hfA hfq y0 y1 y2 y3 y4 hki hke hen hee
                  gi_wp2_with fail
                  gi_loopw [108] (fun i wx => i = .int .i64 0 ∧ wA = wx) (fun _ _ => 0)
                  case atStart => exact ⟨rfl, rfl⟩
                  case round =>
                    obtain ⟨rfl, rfl⟩ := hrel
                    obtain ⟨v0, v1, v2, -, v4⟩ := HSQ.out.cells
                    have hxa : XA < wA.heap.size := (Array.getElem?_eq_some_iff.1 HSQ.out.xa).1
                    have ek : IntKind.i64.wrap ((X.length : Int) + 1) = (X.length : Int) + 1 := IntWalk.i64_in _ (by have := HXB.out; omega)
                    have HNA := Lib.hid (HSQ.out.setA (X.length + 1))
                    have v5 := HNA.out.cells.1
                    rw [show ((X.length + 1 : Nat) : Int) = (X.length : Int) + 1 by omega] at v5
                    by_cases hr1 : r = 1
                    · have hri1 : ((r : Int) == 1) = true := by rw [beq_iff_eq]; omega
                      have HR1 := Lib.hid hr1
                      clear hr1
                      gi_wp2_with fail
                      rw [← HRR.out, show (X.length : Int) + 1 = ((X.length + 1 : Nat) : Int) by omega]
                      have h := HNA.out.putL (o' := R .done (some (.exit 4))) (HIL.out _ _)
                      refine ⟨HNA.out.lp, by simp, by first | exact HFE.out | exact (fun h => List.eq_nil_of_length_eq_zero (HFE.out h)), ?_⟩
                      unfold stG
                      rw [if_pos HR1.out]
                      exact h
                    · have hri1 : ((r : Int) == 1) = false := by rw [beq_eq_false_iff_ne]; omega
                      have HR1 := Lib.hid hr1
                      clear hr1
                      gi_wp2_with fail
                      rw [← HRR.out, show (X.length : Int) + 1 = ((X.length + 1 : Nat) : Int) by omega]
                      have h := HNA.out.putL (o' := R .ready none) (HIL.out _ _)
                      refine ⟨HNA.out.lp, by simp, by first | exact HFE.out | exact (fun h => List.eq_nil_of_length_eq_zero (HFE.out h)), ?_⟩
                      unfold stG
                      rw [if_neg HR1.out]
                      exact h
                · rintro e W2 ⟨⟨vv, rfl⟩, hit⟩
                  have HU : Hid ((∃ kk, FgL w RZ NB WB Bn E wv X ga gc L XR r XA D Ds (R .ready none) kk W2 ∧ (r ≠ 1 → kk = st) ∧ (r = 1 → kk = if st = 0 then 0 else 1)) ∨ (r = 1 ∧ ∃ kk, FgL w RZ NB WB Bn E wv X ga gc L XR r XA D Ds (R .done (some (.exit 4))) kk W2 ∧ kk = if st = 0 then 0 else 1)) := Lib.hid (by
                    have hs := HST0.out
                    rcases hit with ⟨h0, A, ⟨hF, hst⟩, hfA⟩ | ⟨hne, hF, hst⟩ | ⟨hr1, hx, hst⟩
                    · rw [← HEE.out] at h0
                      rw [if_pos h0] at hs
                      rw [← HXL.out] at hst
                      refine .inl ⟨X.length, hst.keep hfA, fun _ => by omega, fun h => ?_⟩
                      have : X.length = 0 := by rw [HXL.out, hF h]; rfl
                      rw [if_pos (by omega)]
                      exact this
                    · rw [← HEE.out] at hne
                      rw [if_neg hne] at hs
                      by_cases hr1 : r = 1
                      · unfold stG at hst
                        rw [if_pos hr1] at hst
                        refine .inr ⟨hr1, _, hst, ?_⟩
                        rw [if_neg (by omega)]
                        have := hF hr1
                        omega
                      · unfold stG at hst
                        rw [if_neg hr1] at hst
                        exact .inl ⟨_, hst, fun _ => by omega, fun h => absurd h hr1⟩
                    · refine .inr ⟨hr1, _, hst, ?_⟩
                      rw [if_neg (by split at hs <;> omega)])
                  clear hit
                  rcases HU.out with ⟨kk, hst, hkk⟩ | ⟨hr1, kk, hst, hkk⟩
                  · refine ⟨⟨_, rfl⟩, .inl ?_⟩
                    have hl2 := hst.lp
                    rw [hR] at hl2
                    refine ⟨hl2, ?_⟩
                    generalize hWb : World.putObj W2 (D + 1) _ = Wb
                    have HLB : Hid (FgL w RZ NB WB Bn E wv X ga gc L XR r XA D Ds (R .exhausted none) kk Wb) := Lib.hid (by
                      have h := hst.putL (o' := R .exhausted none) (HIL.out _ _)
                      rw [← hWb]
                      rw [HRR.out] at h ⊢
                      exact h)
                    have HKK := Lib.hid hkk
                    clear hWb hl2 hlr hlr2 HST hst hkk hR HU
                    obtain ⟨v0, v1, v2, v5, -⟩ := HLB.out.cells
                    by_cases hr1 : r = 1
                    · have v3 : (Wb.alloc (.cells #[.int .i64 1] 3)).cell? ⟨Wb.heap.size, 0, none⟩ = some (.int .i64 1) := cell_of_row _ _ 0 _ _ _ (heap_alloc_new Wb _)
                      have HK1 := Lib.hid (HKK.out.2 hr1)
                      subst hr1
                      by_cases hs0 : st = 0
                      · have hk0 : kk = 0 := by rw [HK1.out, if_pos hs0]
                        subst hk0 hs0
                        go_wp2_with fail
                        try rw [show ((1 : Int) + 1) = ((2 : Nat) : Int) by omega]
                        refine HK.out _ _ (Handed.intro (z - 1) (by omega) (HJ.out _ _ _ ⟨2, Wb.heap.size, D :: Ds, pickU [_, _, _, _, _, _, _, _, _, _, _, _, _, _, _, _, _, _, _, _, _, _, _, _, _, _, _, _, _, _, _, _, _, _, _, _, _, _, _, _, _, _, _, _, _, _, _, _, _, _, _, _, _, _, _, _, _, _, _, _, _, _, _, _, _, _, _, _, _, _, _, _, _, _, _, _, _, _, _, _, _, _, _, _, _, _, _, _], rfl, by omega, HLB.out.s.keep ((Fr.refl _ _).alloc _), ?_, HLB.out.s.fr.size, HDN.out, fun D' hD' => ⟨((Fr.refl [] Wb).alloc _).obj (HLB.out.df D' hD') (by simp), HDW.out D' hD'⟩⟩))
                        exact heap_alloc_new Wb _
                      · have hk1 : kk = 1 := by rw [HK1.out, if_neg hs0]
                        have hs1 : (1 : Int) ≤ (st : Int) := by omega
                        have hs2 : ¬ (st : Int) < 1 := by omega
                        have hs3 : min (1 : Int) (st : Int) = 1 := by omega
                        subst hk1
                        go_wp2_with fail
                        try rw [show ((1 : Int) + 1) = ((2 : Nat) : Int) by omega]
                        refine HK.out _ _ (Handed.intro (z - 1) (by omega) (HJ.out _ _ _ ⟨2, Wb.heap.size, D :: Ds, pickU [_, _, _, _, _, _, _, _, _, _, _, _, _, _, _, _, _, _, _, _, _, _, _, _, _, _, _, _, _, _, _, _, _, _, _, _, _, _, _, _, _, _, _, _, _, _, _, _, _, _, _, _, _, _, _, _, _, _, _, _, _, _, _, _, _, _, _, _, _, _, _, _, _, _, _, _, _, _, _, _, _, _, _, _, _, _, _, _], rfl, by omega, HLB.out.s.keep ((Fr.refl _ _).alloc _), ?_, HLB.out.s.fr.size, HDN.out, fun D' hD' => ⟨((Fr.refl [] Wb).alloc _).obj (HLB.out.df D' hD') (by simp), HDW.out D' hD'⟩⟩))
                        exact heap_alloc_new Wb _
                    · have hk1 : kk = st := HKK.out.1 hr1
                      have hri1 : ((r : Int) != 1) = true := by rw [bne_iff_ne]; omega
                      have hri2 : ((r : Int) == 1) = false := by rw [beq_eq_false_iff_ne]; omega
                      have hss : ((st : Int) != (st : Int)) = false := by simp
                      have v3 : (Wb.alloc (.cells #[.int .i64 r] 3)).cell? ⟨Wb.heap.size, 0, none⟩ = some (.int .i64 r) := cell_of_row _ _ 0 _ _ _ (heap_alloc_new Wb _)
                      have er1 : IntKind.i64.wrap ((r : Int) + 1) = (r : Int) + 1 := IntWalk.i64_in _ (by omega)
                      subst hk1
                      go_wp2_with fail
                      try rw [show ((r : Int) + 1) = ((r+1 : Nat) : Int) by omega]
                      refine HK.out _ _ (Handed.intro (z - 1) (by omega) (HJ.out _ _ _ ⟨r+1, Wb.heap.size, D :: Ds, pickU [_, _, _, _, _, _, _, _, _, _, _, _, _, _, _, _, _, _, _, _, _, _, _, _, _, _, _, _, _, _, _, _, _, _, _, _, _, _, _, _, _, _, _, _, _, _, _, _, _, _, _, _, _, _, _, _, _, _, _, _, _, _, _, _, _, _, _, _, _, _, _, _, _, _, _, _, _, _, _, _, _, _, _, _, _, _, _, _], rfl, by omega, HLB.out.s.keep ((Fr.refl _ _).alloc _), ?_, HLB.out.s.fr.size, HDN.out, fun D' hD' => ⟨((Fr.refl [] Wb).alloc _).obj (HLB.out.df D' hD') (by simp), HDW.out D' hD'⟩⟩))
                      exact heap_alloc_new Wb _
                  · refine ⟨⟨_, rfl⟩, .inr ?_⟩
                    have hl2 := hst.lp
                    rw [hR] at hl2
                    refine ⟨.exit 4, hl2, ?_⟩
                    generalize hWb : World.putObj W2 (D + 1) _ = Wb
                    have HLB : Hid (FgL w RZ NB WB Bn E wv X ga gc L XR r XA D Ds (R .exhausted (some (.exit 4))) kk Wb) := Lib.hid (by
                      have h := hst.putL (o' := R .exhausted (some (.exit 4))) (HIL.out _ _)
                      rw [← hWb]
                      rw [HRR.out] at h ⊢
                      exact h)
                    have HKK : Hid ((r ≠ 1 → kk = st) ∧ (r = 1 → kk = if st = 0 then 0 else 1)) := Lib.hid ⟨fun h => absurd hr1 h, fun _ => hkk⟩
                    clear hWb hl2 hlr hlr2 HST hst hkk hR HU
                    have hr1_ := hr1
                    clear hr1
                    obtain ⟨v0, v1, v2, v5, -⟩ := HLB.out.cells
                    by_cases hr1 : r = 1
                    · have v3 : (Wb.alloc (.cells #[.int .i64 1] 3)).cell? ⟨Wb.heap.size, 0, none⟩ = some (.int .i64 1) := cell_of_row _ _ 0 _ _ _ (heap_alloc_new Wb _)
                      have HK1 := Lib.hid (HKK.out.2 hr1)
                      subst hr1
                      by_cases hs0 : st = 0
                      · have hk0 : kk = 0 := by rw [HK1.out, if_pos hs0]
                        subst hk0 hs0
                        gi_wp2_with fail
                        go_wp2_with fail
                        try rw [show ((1 : Int) + 1) = ((2 : Nat) : Int) by omega]
                        refine HK.out _ _ (Handed.intro (z - 1) (by omega) (HJ.out _ _ _ ⟨2, Wb.heap.size, D :: Ds, pickU [_, _, _, _, _, _, _, _, _, _, _, _, _, _, _, _, _, _, _, _, _, _, _, _, _, _, _, _, _, _, _, _, _, _, _, _, _, _, _, _, _, _, _, _, _, _, _, _, _, _, _, _, _, _, _, _, _, _, _, _, _, _, _, _, _, _, _, _, _, _, _, _, _, _, _, _, _, _, _, _, _, _, _, _, _, _, _, _], rfl, by omega, HLB.out.s.keep ((Fr.refl _ _).alloc _), ?_, HLB.out.s.fr.size, HDN.out, fun D' hD' => ⟨((Fr.refl [] Wb).alloc _).obj (HLB.out.df D' hD') (by simp), HDW.out D' hD'⟩⟩))
                        exact heap_alloc_new Wb _
                      · have hk1 : kk = 1 := by rw [HK1.out, if_neg hs0]
                        have hs1 : (1 : Int) ≤ (st : Int) := by omega
                        have hs2 : ¬ (st : Int) < 1 := by omega
                        have hs3 : min (1 : Int) (st : Int) = 1 := by omega
                        subst hk1
                        gi_wp2_with fail
                        go_wp2_with fail
                        try rw [show ((1 : Int) + 1) = ((2 : Nat) : Int) by omega]
                        refine HK.out _ _ (Handed.intro (z - 1) (by omega) (HJ.out _ _ _ ⟨2, Wb.heap.size, D :: Ds, pickU [_, _, _, _, _, _, _, _, _, _, _, _, _, _, _, _, _, _, _, _, _, _, _, _, _, _, _, _, _, _, _, _, _, _, _, _, _, _, _, _, _, _, _, _, _, _, _, _, _, _, _, _, _, _, _, _, _, _, _, _, _, _, _, _, _, _, _, _, _, _, _, _, _, _, _, _, _, _, _, _, _, _, _, _, _, _, _, _], rfl, by omega, HLB.out.s.keep ((Fr.refl _ _).alloc _), ?_, HLB.out.s.fr.size, HDN.out, fun D' hD' => ⟨((Fr.refl [] Wb).alloc _).obj (HLB.out.df D' hD') (by simp), HDW.out D' hD'⟩⟩))
                        exact heap_alloc_new Wb _
                    · exact absurd hr1_ hr1
              · obtain rfl : r = 3 := by omega
                have g1 := cell_of_row _ _ 0 _ _ _ HTA.out.rz
                simp at g1
                have f1 : wx.frozen? ⟨RZ, 0, none⟩ = false := frozen_of_row _ _ 0 _ _ HTA.out.rz
                have hlz : RZ < wx.heap.size := (Array.getElem?_eq_some_iff.1 HTA.out.rz).1
                go_wp2_with fail
                have hfz : Fr [RZ] wx (wx.setCell ⟨RZ, 0, none⟩ (.bool true)) := (Fr.refl _ _).setCell (by simp) _
                have hz : (wx.setCell ⟨RZ, 0, none⟩ (.bool true)).heap[RZ]? = some (.cells #[.bool true] 4) := by rw [heap_setCell_same _ _ 0 _ _ _ HTA.out.rz]; rfl
                have hno : RZ ∉ Ds := fun hm => objG_ne HTA.out.rz (HDS.out RZ hm).1 (by simp) rfl
                refine marksG_ret (Ds := Ds) (fun D hD => hfz.obj (HDS.out D hD).1 (by simp; exact fun e => hno (by rw [← e]; exact hD))) HND.out (fun W' hW' => ⟨results_cG rfl _ _ ⟨RZ, 0, none⟩ _ rfl (load_bG (hW'.obj hz hno)), rfl, ?_⟩)
                exact frNewG (frNewG HTA.out.fr hfz (fun i hi => by simp at hi; rw [hi]; exact HTA.out.new.1)) hW' (fun i hi => (HDS.out i hi).2)
end Go.Proofs.YtkgfdcagninphaaDoor
