/- Tokens: Open. -/
import Derived.Test.YtlckhfjkdahfpaaDoorTkH
import Derived.Test.YtlckhfjkdahfpaaDoorRfJ
import Derived.Test.YtlckhfjkdahfpaaDoorLate
import Derived.Sort.CutIn
namespace Go.Proofs.YtlckhfjkdahfpaaDoor
open Go.RowKit Go.Shelf Go.Maps
attribute [local go_sem] Oper.semAt_some
theorem RF.base_leT {B B' : Nat} {bs : List Nat} {w : World} {p : Nat} {s : RFS} (h : RF B bs w p s) (hB : B' ≤ B) : RF B' bs w p s := by
  obtain ⟨v, X, h, rfl⟩ := h
  exact ⟨v, X, ⟨h.obj, ⟨own_base h.recs.row hB, fun x hx => own_base (h.recs.dat x hx) hB⟩, h.opt, h.ok, Nat.le_trans hB h.base⟩, rfl⟩
theorem openT_inv {b : List UInt8} {kd vr : Int} {k v sz : Nat} {R : Recs} (hw : wrongB kd vr = false) (h : openB b = .ok (k, v, sz, R)) : openT b kd vr = (if (k : Int) ≠ kd ∨ sz ≠ 42 then .error 111 else if (v : Int) ≠ vr then .error 8 else if 200 < R.length then .error 66 else if errT [] R = 0 then .ok (R.map nmO) else .error (errT [] R)) := by
  unfold openT
  rw [hw, h]
  rfl
set_option maxRecDepth 100000 in
set_option maxHeartbeats 6400000 in
theorem Open_T (a : Option Addr) (c : Nat) (b : List UInt8) (kd vr : Int) (w : World) (hl : b.length ≤ 140737488351300) (hc : b.length ≤ c) (hb : Bytes w a b) (hn : Nib w) :
    Calls Tryd.prog 16 #[.slice a b.length c, .int .i64 kd, .int .i64 vr] w fun e w' => OpenTG w w' e b kd vr := by
  have HN := Lib.hid hn
  have HB := Lib.hid hb
  have HC := Lib.hid hc
  clear hb hn
  refine (callsIn_wide (n := 5)).1 ?_
  refine callsIn_of_wp_marks Tryd.func16 rfl trivial ?_ rfl
  simp only [Tryd.ntmps16, List.size_toArray, List.length_cons, List.length_nil, Nat.reduceAdd, Nat.reduceSub, Array.replicate_succ, Array.replicate_zero, List.push_toArray, List.append_toArray, List.nil_append, List.cons_append]
  refine wpIn_wide.2 ?_
  obtain ⟨wz, hwz⟩ : ∃ wz, wz = (w.alloc (.cells #[.pointer none] 24)).alloc (.cells #[.int .i64 0] 25) := ⟨_, rfl⟩
  go_upto_region 1 with fail
  rw [← hwz]
  have hfz : Fr [] w wz := by rw [hwz]; exact ((Fr.refl _ _).alloc _).alloc _
  have hz1 : wz.heap[w.heap.size]? = some (.cells #[.pointer none] 24) := by rw [hwz]; exact ((Fr.refl [] _).alloc _).obj (heap_alloc_new w _) (by simp)
  have hz2 : wz.heap[w.heap.size + 1]? = some (.cells #[.int .i64 0] 25) := by
    rw [hwz]
    have := heap_alloc_new (w.alloc (.cells #[.pointer none] 24)) (.cells #[.int .i64 0] 25)
    rwa [World.size_alloc] at this
  have hsz : wz.heap.size = w.heap.size + 2 := by rw [hwz]; simp
  have HFZ := Lib.hid hfz
  have HZ1 := Lib.hid hz1
  have HZ2 := Lib.hid hz2
  have HSZ := Lib.hid hsz
  clear hwz
  have CELLS : Hid (∀ W : World, Fr [] wz W → W.heap[w.heap.size]? = some (.cells #[.pointer none] 24) ∧ W.heap[w.heap.size + 1]? = some (.cells #[.int .i64 0] 25) ∧ W.cell? ⟨w.heap.size, 0, none⟩ = some (.pointer none) ∧ W.cell? ⟨w.heap.size + 1, 0, none⟩ = some (.int .i64 0) ∧ W.frozen? ⟨w.heap.size, 0, none⟩ = false ∧ W.frozen? ⟨w.heap.size + 1, 0, none⟩ = false ∧ w.heap.size < W.heap.size ∧ w.heap.size + 1 < W.heap.size) := Lib.hid fun W hf => by
    have h1 := hf.obj hz1 (by simp)
    have h2 := hf.obj hz2 (by simp)
    have := hf.size
    exact ⟨h1, h2, cell_of_row _ _ 0 _ _ _ h1, cell_of_row _ _ 0 _ _ _ h2, frozen_of_row _ _ 0 _ _ h1, frozen_of_row _ _ 0 _ _ h2, by omega, by omega⟩
  have HW := Lib.hid (wrong_T kd vr wz)
  clear hfz hz1 hz2 hsz
  cases hwr : wrongB kd vr with
  | true =>
    rw [hwr] at HW
    have HE : Hid (openT b kd vr = .error 2) := Lib.hid (by unfold openT; rw [if_pos hwr])
    clear hwr
    go_wp2_with fail
    refine HW.out.mono ?_
    rintro e w' ⟨rfl, rfl⟩
    obtain ⟨k1, k2, g1, g2, f1, f2, s1, s2⟩ := CELLS.out wz (Fr.refl _ _)
    have K1 := Lib.hid k1
    have K2 := Lib.hid k2
    clear k1 k2
    go_wp2_with fail
    exact openT_err HE.out K1.out K2.out HFZ.out rfl rfl
  | false =>
    rw [hwr] at HW
    have HWR := Lib.hid hwr
    have HOP := Lib.hid (Open_F a c b wz hl HC.out (HB.out.keep HFZ.out) (nib_keep HN.out HFZ.out))
    clear hwr
    go_wp2_with fail
    refine HW.out.mono ?_
    rintro e w' ⟨rfl, rfl⟩
    go_wp2_with fail
    refine HOP.out.mono ?_
    rintro e w1 (⟨E, hE, rfl, hf1⟩ | ⟨k, v, sz, R, p, fb, hE, rfl, hrf, hf1⟩)
    · have hE0 : (E != 0) = true := by rw [bne_iff_ne]; rcases openB_err hE with h | h | h | h | h | h | h <;> omega
      have HE : Hid (openT b kd vr = .error E) := Lib.hid (by unfold openT; rw [HWR.out, hE]; rfl)
      obtain ⟨k1, k2, g1, g2, f1, f2, s1, s2⟩ := CELLS.out w1 hf1
      have K1 := Lib.hid k1
      have K2 := Lib.hid k2
      have HF1 := Lib.hid (HFZ.out.trans hf1)
      clear k1 k2 hE hf1
      go_wp2_with fail
      exact openT_err HE.out K1.out K2.out HF1.out rfl rfl
    · have HO := Lib.hid (openT_inv HWR.out hE)
      obtain ⟨k1, k2, g1, g2, f1, f2, s1, s2⟩ := CELLS.out w1 hf1
      have K1 := Lib.hid k1
      have K2 := Lib.hid k2
      have HRF := Lib.hid (hrf.base_leT HFZ.out.size)
      have HRZ := Lib.hid hrf
      have HF1 := Lib.hid (HFZ.out.trans hf1)
      have HKI := Lib.hid (Kind_F _ _ w1 p _ hrf)
      have HSI := Lib.hid (Size_F _ _ w1 p _ hrf)
      have HVE := Lib.hid (Version_F _ _ w1 p _ hrf)
      have HCO := Lib.hid (Count_F _ _ w1 p _ hrf)
      have HINV := Lib.hid (openB_inv hE)
      have HF1Z := Lib.hid hf1
      clear k1 k2 hrf hE hf1
      simp only at HKI HSI HVE HCO
      by_cases hkd : (k : Int) = kd
      · have hki : ((k : Int) != kd) = false := by rw [hkd]; simp
        by_cases hs42 : sz = 42
        · have hsi : ((sz : Int) != 42) = false := by rw [hs42]; rfl
          by_cases hvr : (v : Int) = vr
          · have hvi : ((v : Int) != vr) = false := by rw [hvr]; simp
            by_cases h200 : 200 < R.length
            · have h2i : (200 : Int) < (R.length : Int) := by omega
              have HE : Hid (openT b kd vr = .error 66) := Lib.hid (by rw [HO.out, if_neg (by simp [hkd, hs42]), if_neg (by simp [hvr]), if_pos h200])
              clear hkd hs42 hvr h200 HOP HW
              go_wp2_with fail
              refine HKI.out.mono ?_
              rintro e w' ⟨rfl, rfl⟩
              go_wp2_with fail
              refine HSI.out.mono ?_
              rintro e w' ⟨rfl, rfl⟩
              go_wp2_with fail
              refine HVE.out.mono ?_
              rintro e w' ⟨rfl, rfl⟩
              go_wp2_with fail
              refine HCO.out.mono ?_
              rintro e w' ⟨rfl, rfl⟩
              go_wp2_with fail
              exact openT_err HE.out K1.out K2.out HF1.out rfl rfl
            · have h2i : ¬ (200 : Int) < (R.length : Int) := by omega
              have HOE : Hid (openT b kd vr = if errT [] R = 0 then .ok (R.map nmO) else .error (errT [] R)) := Lib.hid (by rw [HO.out, if_neg (by simp [hkd, hs42]), if_neg (by simp [hvr]), if_neg h200])
              have HKV := Lib.hid (show k = kd.toNat ∧ v = vr.toNat ∧ sz = 42 by omega)
              have H200 := Lib.hid h200
              clear hkd hs42 hvr h200 HOP HW HO
              go_wp2_with fail
              refine HKI.out.mono ?_
              rintro e w' ⟨rfl, rfl⟩
              go_wp2_with fail
              refine HSI.out.mono ?_
              rintro e w' ⟨rfl, rfl⟩
              go_wp2_with fail
              refine HVE.out.mono ?_
              rintro e w' ⟨rfl, rfl⟩
              go_wp2_with fail
              refine HCO.out.mono ?_
              rintro e w' ⟨rfl, rfl⟩
              go_wp2_with fail
              obtain ⟨s, hs⟩ : ∃ s : RFS, s = ⟨k, v, sz, 0, R⟩ := ⟨_, rfl⟩
              rw [← hs] at HRF HRZ
              have HOV := Lib.hid (over_T _ _ w1 p _ HRF.out)
              have hsR : s.R = R := by rw [hs]
              have HSS := Lib.hid (show s.kd = kd.toNat ∧ s.vr = vr.toNat ∧ s.sz = 42 by rw [hs]; exact ⟨HKV.out.1, HKV.out.2.1, HKV.out.2.2⟩)
              have HSIZ := Lib.hid (show ∀ d, some d ∈ R → d.length = 41 from fun d hd => by have := HINV.out.2.2.2.2.2.2 d hd; have := HKV.out.2.2; omega)
              rw [hsR] at HOV
              have HSR := Lib.hid hsR
              obtain ⟨n, hn⟩ : ∃ n, n = R.length := ⟨_, rfl⟩
              rw [← hn] at HOV
              have hn200 : n ≤ 200 := by omega
              have HNN := Lib.hid hn
              clear hn hs hsR HKI HSI HVE HCO g1 g2 f1 f2 s1 s2
              refine HOV.out.mono ?_
              rintro e w2 ⟨t, mb, g, rfl, ho, hrow, hmap, ⟨o1, o2, o3⟩, hf2⟩
              have HOB := Lib.hid ho
              have HRW := Lib.hid hrow
              have HMP := Lib.hid hmap
              have HF2 := Lib.hid hf2
              have HGB := Lib.hid (show w1.heap.size ≤ g ∧ g < mb ∧ mb < t ∧ t < w2.heap.size from ⟨o1, o2, o3, (Array.getElem?_eq_some_iff.1 ho).1⟩)
              clear ho hrow hmap hf2 o1 o2 o3 HOV
              go_upto_region 13 with fail
              obtain ⟨w3, hw3⟩ : ∃ w3, w3 = w2.alloc (.cells #[.pointer (some ⟨t, 0, none⟩)] 24) := ⟨_, rfl⟩
              rw [← hw3]
              have HF3 := Lib.hid (show Fr [] w2 w3 by rw [hw3]; exact (Fr.refl _ _).alloc _)
              have HX3 := Lib.hid (show w3.heap[w2.heap.size]? = some (.cells #[.pointer (some ⟨t, 0, none⟩)] 24) by rw [hw3]; exact heap_alloc_new w2 _)
              have HS3 := Lib.hid (show w3.heap.size = w2.heap.size + 1 by rw [hw3]; simp)
              have HAL := Lib.hid (All_F p w3)
              clear hw3
              go_wp2_with fail
              refine HAL.out.mono ?_
              rintro e w4 ⟨rfl, hbn, hf4, hs4⟩
              have HBN := Lib.hid hbn
              have HF4 := Lib.hid hf4
              have HS4 := Lib.hid hs4
              clear hbn hf4 hs4 HAL
              go_wp2_with fail
              refine (wpIn_wide (n := 5)).1 ?_
              refine range_wide rfl (enters_of Tryd.func56 (by kernel_rfl) rfl) ?_
              intro fn W1 hlr hD hfW hszW
              obtain ⟨D, hDD⟩ : ∃ D, D = w4.heap.size := ⟨_, rfl⟩
              rw [← hDD] at hlr hD hszW ⊢
              obtain ⟨Bn, hBn⟩ : ∃ Bn, Bn = w3.heap.size := ⟨_, rfl⟩
              rw [← hBn] at HBN hlr ⊢
              obtain ⟨XT, hXT⟩ : ∃ XT, XT = w2.heap.size := ⟨_, rfl⟩
              rw [← hXT] at HX3 hlr ⊢
              obtain ⟨Rr, hR, hlr2⟩ := lp_take hlr
              obtain ⟨P, hP⟩ : ∃ P : ToP, P = ⟨D + 1, D, w.heap.size, w.heap.size + 1, XT, Bn, t, mb, g⟩ := ⟨_, rfl⟩
              have hf24 := HF3.out.trans (HF4.out.trans hfW)
              have hf14 := HF2.out.trans hf24
              have HST : Hid (ToS P w fb p n s (Rr .ready none) 0 (List.replicate n []) W1) := Lib.hid (by
                have e1 := HGB.out
                have e2 := HS3.out
                have e3 := HS4.out
                have e4 := HSZ.out
                have e5 := HF1Z.out.size
                subst hP
                refine ⟨hlr2, hD, ?_, hf14.obj K2.out (by simp), (HF4.out.trans hfW).obj HX3.out (by simp), hfW.obj HBN.out (by simp), hf24.obj HOB.out (by simp), ?_, HMP.out.fr hf24 (by simp), HRF.out.keep hf14, HF1.out.trans hf14, ?_, ?_, fun i hi => ?_⟩
                · exact hf14.obj K1.out (by simp)
                · exact own_base (own_fr HRW.out hf24 (by simp)) HF1.out.size
                · simp [ToP.fix]; omega
                · intro i hi; simp [ToP.fix] at hi; omega
                · have := HRZ.out.lt i hi
                  simp [ToP.fix]; omega)
              have HRR := Lib.hid hR
              have e4 : P.l = D + 1 ∧ P.D = D ∧ P.X6 = w.heap.size ∧ P.X7 = (w.heap.size + 1) ∧ P.XT = XT ∧ P.Bn = Bn ∧ P.t = t ∧ P.mb = mb ∧ P.g = g := by subst hP; exact ⟨rfl, rfl, rfl, rfl, rfl, rfl, rfl, rfl, rfl⟩
              have HE4 := Lib.hid e4
              have HPP := Lib.hid hP
              have VW : Hid (∀ (o : Obj) (e : Int) (N : Nms) (A : World), ToS P w fb p n s o e N A → A.cell? ⟨w.heap.size, 0, none⟩ = some (.pointer none) ∧ A.cell? ⟨w.heap.size + 1, 0, none⟩ = some (.int .i64 e) ∧ A.cell? ⟨XT, 0, none⟩ = some (.pointer (some ⟨t, 0, none⟩)) ∧ A.cell? ⟨t, 1, none⟩ = some (.slice (some ⟨g, 0, none⟩) n n) ∧ A.cell? ⟨t, 2, none⟩ = some (.map (some mb)) ∧ A.frozen? ⟨w.heap.size, 0, none⟩ = false ∧ A.frozen? ⟨w.heap.size + 1, 0, none⟩ = false ∧ w.heap.size < A.heap.size ∧ (w.heap.size + 1) < A.heap.size) := Lib.hid fun o e N A h => by
                subst hP
                exact ⟨cell_of_row _ _ 0 _ _ _ h.x6, cell_of_row _ _ 0 _ _ _ h.x7, cell_of_row _ _ 0 _ _ _ h.xt, cell_of_row _ _ 1 _ _ _ h.tb, cell_of_row _ _ 2 _ _ _ h.tb, frozen_of_row _ _ 0 _ _ h.x6, frozen_of_row _ _ 0 _ _ h.x7, h.lt w.heap.size (by simp [ToP.fix]), h.lt (w.heap.size + 1) (by simp [ToP.fix])⟩
              clear hP e4 hDD hBn hXT hf24 hf14 hlr2 hD hfW hszW hlr
              refine (AllF1_in 4 (D + 1) Bn p w.heap.size W1 s (fun id s' A => s' = s ∧ OtJ P w fb p n s (Rr .ready none) R id A) (fun A => OtX P w fb p n s (Rr .done (some .ret)) R A) ?_ ?_ ?_ ?_).mono ?_
              · rintro id s' A ⟨rfl, -, -, -, h⟩
                refine ⟨⟨fb, h.rf⟩, ?_⟩
                have h2 := cell_of_row _ _ 0 _ _ _ h.bn
                rw [HE4.out.2.2.2.2.2.1] at h2
                exact h2
              · exact ⟨rfl, by omega, rfl, nok_pad n hn200, HST.out⟩
              · rintro id s' A ⟨rfl, hid, he, hnk, h⟩ hlt hnn
                rw [HSR.out] at hlt hnn
                have hat : R[id]? = some none := by
                  rw [List.getD_eq_getElem?_getD] at hnn
                  rw [List.getElem?_eq_getElem hlt] at hnn ⊢
                  exact congrArg some hnn
                have hN : upT R id ++ List.replicate (n - id) [] = upT R (id + 1) ++ List.replicate (n - (id + 1)) [] := by
                  rw [upT_succ hat, show n - id = (n - (id + 1)) + 1 by have := HNN.out; omega, pad_skip]
                  rfl
                rw [hN] at hnk h
                refine ⟨rfl, by have := HNN.out; omega, ?_, hnk, h⟩
                rw [he, errT_at hat]
              · rintro id s' d g1 c1 A W2 ⟨hss, hidn, her, hnk, hst⟩ hd hfA hg hown
                subst hss
                have hss : s' = s' := rfl
                rw [HSR.out] at hd
                have h2 := hst.keep hfA
                have hl2 := h2.lp
                rw [HE4.out.1, hR] at hl2
                have HFX : Hid (∀ i ∈ P.fix, i < A.heap.size) := Lib.hid hst.lt
                have HA2 := Lib.hid hfA.size
                have HD41 := Lib.hid (HSIZ.out d (List.mem_of_getElem? hd))
                have hidl : id < n := by rw [HNN.out]; exact (List.getElem?_eq_some_iff.1 hd).1
                have HAT := Lib.hid hd
                have HER := Lib.hid her
                have HNK := Lib.hid hnk
                have HS2 := Lib.hid h2
                have HOWN := Lib.hid hown
                have HG := Lib.hid (show A.heap.size ≤ g1 from hg)
                have HAW : Hid (w.heap.size ≤ A.heap.size) := Lib.hid hst.fr.size
                clear hst hfA hg hown hd her hnk h2 hss HST
                refine yield_wide hl2 rfl ?_
                have HL2 := Lib.hid hl2
                clear hl2
                gi_wp2_with fail
                refine ⟨HL2.out, ?_⟩
                generalize hWb : World.putObj W2 (D + 1) _ = Wb
                have HSB : Hid (ToS P w fb p n s' (Rr .busy none) 0 (upT R id ++ List.replicate (n - id) []) Wb) := Lib.hid (by
                  have h := HS2.out.putL (o' := Rr .busy none)
                  rw [HE4.out.1] at h
                  rw [← hWb]
                  rw [HRR.out] at h ⊢
                  exact h)
                have HOWB : Hid (Wb.ownsRow A.heap.size 5 1 (.slice (some ⟨g1, 0, none⟩) d.length c1) d.length (d.map B8)) := Lib.hid (by
                  rw [← hWb]
                  exact own_fr HOWN.out ((Fr.refl [D + 1] W2).putObj (by simp) _) (fun i hi hm => by
                    have h1 : g1 = i := by simpa [Value.ownBlock] using hi
                    simp at hm
                    have := HFX.out P.l (by simp [ToP.fix])
                    rw [HE4.out.1] at this
                    have := HG.out
                    omega))
                clear hWb HS2 HOWN
                obtain ⟨a1', c1', e1, hby1, hcap1⟩ := Bytes.of_own HOWB.out
                simp only [Value.slice.injEq] at e1
                obtain ⟨rfl, -, rfl⟩ := e1
                have HNF := Lib.hid (nameOf_F g1 c1 d Wb HD41.out (by have := HD41.out; omega) hby1)
                rw [← HD41.out] at HNF
                have HL := HSB.out.mp.look
                rw [HE4.out.2.2.2.2.2.2.2.1] at HL
                have HLK := Lib.hid HL
                clear HL hby1 hcap1 HOWB
                gi_wp2_with fail
                refine ⟨trivial, (CallsIn.inRound _ (callsIn_wide.2 HNF.out)).mono ?_⟩
                rintro e w7 ⟨nm, rfl, hnm, rfl⟩
                have HS : Hid (Str nm = .string ⟨nm.toArray⟩) := Lib.hid rfl
                obtain ⟨v1, v2, v3, v4, v5, f1, f2, s1, s2⟩ := VW.out _ _ _ _ HSB.out
                cases hok : okT d with
                | false =>
                  have HE : Hid (errT [] R = 110) := Lib.hid (by rw [HER.out, errT_at HAT.out]; simp only [hok]; rfl)
                  clear hok hnm HNF
                  rw [HS.out]
                  generalize ByteArray.mk nm.toArray = S at HS
                  gi_wp2_with fail
                  rw [← HRR.out]
                  have hse := HSB.out.err 110
                  rw [HE4.out.2.2.1, HE4.out.2.2.2.1] at hse
                  have hlp := hse.lp
                  have hpl := hse.putL (o' := Rr .done (some .ret))
                  rw [HE4.out.1] at hlp hpl
                  refine ⟨hlp, .inr ⟨rfl, by rw [HE.out]; decide, _, by rw [HE.out]; exact hpl⟩⟩
                | true =>
                  obtain rfl := hnm hok
                  obtain ⟨hne, hgd, hrec⟩ := okT_rec HD41.out hok
                  have hlk := HLK.out (nmT d) (by have := (goodB_ne hgd).2; unfold maxLen; omega)
                  rw [findN_pad] at hlk
                  cases hfn : findN (upT R id) (nmT d) with
                  | some j =>
                    have HE : Hid (errT [] R = 7) := Lib.hid (by rw [HER.out, errT_at HAT.out]; simp only [hok, hfn]; rfl)
                    rw [hfn] at hlk
                    simp only [Option.getD_some, Option.isSome_some] at hlk
                    clear hok hnm HNF hfn hne hgd hrec
                    rw [HS.out]
                    generalize ByteArray.mk (nmT d).toArray = S at HS hlk
                    gi_wp2_with fail
                    rw [← HRR.out]
                    have hse := HSB.out.err 7
                    rw [HE4.out.2.2.1, HE4.out.2.2.2.1] at hse
                    have hlp := hse.lp
                    have hpl := hse.putL (o' := Rr .done (some .ret))
                    rw [HE4.out.1] at hlp hpl
                    refine ⟨hlp, .inr ⟨rfl, by rw [HE.out]; decide, _, by rw [HE.out]; exact hpl⟩⟩
                  | none =>
                    have HE : Hid (errT [] R = errT (upT R (id + 1)) (R.drop (id + 1))) := Lib.hid (by rw [HER.out, errT_at HAT.out]; simp only [hok, hfn]; rfl)
                    rw [hfn] at hlk
                    simp only [Option.getD_none, Option.isSome_none] at hlk
                    obtain ⟨N, hNN⟩ : ∃ N, N = upT R id ++ List.replicate (n - id) [] := ⟨_, rfl⟩
                    have hul : (upT R id).length = id := upT_length (by have := HNN.out; omega)
                    have hNl : N.length = n := by rw [hNN, List.length_append, hul, List.length_replicate]; omega
                    have hN0 : N.getD id [] = [] := by
                      have h := pad_get (upT R id) (n - id)
                      rw [hul, ← hNN] at h
                      exact h
                    have hNs : N.set id (nmT d) = upT R (id + 1) ++ List.replicate (n - (id + 1)) [] := by
                      have h := set_pad (upT R id) (n - (id + 1)) (nmT d)
                      rw [hul, show n - (id + 1) + 1 = n - id by omega, ← hNN] at h
                      rw [h, upT_succ HAT.out]
                      rfl
                    have hnk := HNK.out
                    have hsb := HSB.out
                    rw [← hNN] at hnk hsb
                    have hfN : findN N (nmT d) = none := by rw [hNN, findN_pad]; exact hfn
                    have hidN : id < N.length := by omega
                    have HNK2 := Lib.hid (hnk.setK hgd hfN hidN hN0)
                    obtain ⟨o0, o1, o2, ck, q0, q1, q2, q3⟩ := (hsb.mp.fr ((Fr.refl [] Wb).drew) (by simp)).entryK (k := id) (N' := N.set id (nmT d)) (by omega) (goodB_ne hgd).2 hfN (by have := lenN_le N; omega) (lenN_setK hne hidN hN0) (findN_setK hnk hgd hfN hidN hN0)
                    rw [HE4.out.2.2.2.2.2.2.2.1] at q0 q1 q2 q3
                    obtain ⟨g', c', e', hcl, hcf⟩ := own_strC hsb.nm (k := id) hidN
                    rw [HE4.out.2.2.2.2.2.2.2.2] at e'
                    simp only [Value.slice.injEq, Option.some.injEq, Addr.mk.injEq] at e'
                    obtain ⟨⟨rfl, -⟩, -, -⟩ := e'
                    obtain ⟨ss, hss⟩ : ∃ ss, Str (N.getD id []) = Value.string ss := ⟨_, rfl⟩
                    rw [hss] at hcl
                    have HS2 := Lib.hid (show Str (nmT d) = .string ⟨(nmT d).toArray⟩ from rfl)
                    obtain ⟨S, hS⟩ : ∃ S, S = ByteArray.mk (nmT d).toArray := ⟨_, rfl⟩
                    rw [← hS] at HS2 hlk q1
                    obtain ⟨W0, hW0⟩ : ∃ W0, W0 = Wb.drew := ⟨_, rfl⟩
                    rw [← hW0] at q0
                    obtain ⟨W1', hW1⟩ : ∃ W1', W1' = (Wb.setCell ⟨g, id, none⟩ (.string S)).drew := ⟨_, rfl⟩
                    have nd := ToP.nd hsb.nd
                    rw [HE4.out.2.2.2.2.1, HE4.out.2.2.2.2.2.2.1, HE4.out.2.2.2.2.2.2.2.1, HE4.out.2.2.2.2.2.2.2.2] at nd
                    obtain ⟨-, -, -, -, ⟨-, n1, n2, n3⟩, -, ⟨n4, n5⟩, n6⟩ := nd
                    have hfs : Fr [g] W0 W1' := by rw [hW1, hW0]; exact (Fr.refl [g] Wb.drew).setCell (p := ⟨g, id, none⟩) (by simp) (.string S)
                    have p0 := hfs.obj q0 (by simpa using n6)
                    have r1 := q1 W1' p0
                    obtain ⟨W2', hW2⟩ : ∃ W2', W2' = W1'.putObj mb o1 := ⟨_, rfl⟩
                    have hfp : Fr [mb] W1' W2' := by rw [hW2]; exact (Fr.refl [mb] W1').putObj (by simp) _
                    have p1 : W2'.heap[mb]? = some o1 := by rw [hW2]; exact World.putObj_heap_same (Array.getElem?_eq_some_iff.1 p0).1
                    have r2 := q2 W2' p1
                    have hfq : Fr [mb] W2' (W2'.putObj mb o2) := (Fr.refl [mb] W2').putObj (by simp) _
                    have p2 : (W2'.putObj mb o2).heap[mb]? = some o2 := World.putObj_heap_same (Array.getElem?_eq_some_iff.1 p1).1
                    have HM3 := Lib.hid (q3 _ p2)
                    rw [← hW2] at r1
                    have hfd : Fr [] Wb W0 := by rw [hW0]; exact (Fr.refl [] Wb).drew
                    have b0 : W0.cell? ⟨XT, 0, none⟩ = some (.pointer (some ⟨t, 0, none⟩)) ∧ W0.cell? ⟨t, 1, none⟩ = some (.slice (some ⟨g, 0, none⟩) n n) ∧ W0.cell? ⟨t, 2, none⟩ = some (.map (some mb)) := ⟨hfd.cell v3 (by simp), hfd.cell v4 (by simp), hfd.cell v5 (by simp)⟩
                    have b1 : W1'.cell? ⟨XT, 0, none⟩ = some (.pointer (some ⟨t, 0, none⟩)) ∧ W1'.cell? ⟨t, 1, none⟩ = some (.slice (some ⟨g, 0, none⟩) n n) ∧ W1'.cell? ⟨t, 2, none⟩ = some (.map (some mb)) := ⟨hfs.cell b0.1 (by simpa using n3), hfs.cell b0.2.1 (by simpa using n5), hfs.cell b0.2.2 (by simpa using n5)⟩
                    have b2 : W2'.cell? ⟨XT, 0, none⟩ = some (.pointer (some ⟨t, 0, none⟩)) ∧ W2'.cell? ⟨t, 1, none⟩ = some (.slice (some ⟨g, 0, none⟩) n n) ∧ W2'.cell? ⟨t, 2, none⟩ = some (.map (some mb)) := ⟨hfp.cell b1.1 (by simpa using n2), hfp.cell b1.2.1 (by simpa using n4), hfp.cell b1.2.2 (by simpa using n4)⟩
                    have b3 : (W2'.putObj mb o2).cell? ⟨XT, 0, none⟩ = some (.pointer (some ⟨t, 0, none⟩)) ∧ (W2'.putObj mb o2).cell? ⟨t, 1, none⟩ = some (.slice (some ⟨g, 0, none⟩) n n) ∧ (W2'.putObj mb o2).cell? ⟨t, 2, none⟩ = some (.map (some mb)) := ⟨hfq.cell b2.1 (by simpa using n2), hfq.cell b2.2.1 (by simpa using n4), hfq.cell b2.2.2 (by simpa using n4)⟩
                    have K0 := Lib.hid b0
                    have K1 := Lib.hid b1
                    have K2' := Lib.hid b2
                    have K3 := Lib.hid b3
                    have HSBN := Lib.hid hsb
                    have HNS := Lib.hid hNs
                    have HSS2 := Lib.hid hS
                    have hki0 : (0 : Int) ≤ (id : Int) := by omega
                    have hkin : (id : Int) < (n : Int) := by omega
                    rw [HS.out, ← hS]
                    clear hok hnm HNF hfn hne hgd hrec hNN hul hNl hN0 hNs hnk hsb hfN hidN q0 q1 q2 q3 hss n1 n2 n3 n4 n5 n6 hfs p0 hfp p1 hfq p2 hfd b0 b1 b2 b3 hS HS
                    subst hW2 hW1 hW0
                    gi_upto_region 22 with fail
                    clear v1 v2 v3 v4 v5 f1 f2 s1 s2 hlk
                    refine region_round (S := fun w' : World => w'.cell? ⟨XT, 0, none⟩ = some (.pointer (some ⟨t, 0, none⟩)) ∧ w'.cell? ⟨t, 1, none⟩ = some (.slice (some ⟨g, 0, none⟩) n n) ∧ w'.cell? ⟨t, 2, none⟩ = some (.map (some mb))) (by kernel_rfl) (by kernel_rfl) (by exact K0.out) (fun hHd => ?_)
                    refine wpAnyH_take (i := 0) (v := ?_) rfl (by kernel_rfl) (by kernel_rfl) (by kernel_rfl) (fun _ _ _ h => h) (Or.inl ⟨by rfl, ?_⟩) (by assumption) ?_
                    rotate_left
                    · (intro w hSw; (try dsimp only at hSw); go_simp; (try with_reducible rfl))
                    try simp only [Act.put, List.setIfInBounds_toArray, List.set_cons_zero, List.set_cons_succ, List.getElem_toArray, List.getElem_cons_zero, List.getElem_cons_succ]
                    refine wpAnyH_take (i := 1) (v := ?_) rfl (by kernel_rfl) (by kernel_rfl) (by kernel_rfl) (fun _ _ _ h => h) (Or.inl ⟨by rfl, ?_⟩) (by assumption) ?_
                    rotate_left
                    · (intro w hSw; (try dsimp only at hSw); go_simp; (try with_reducible rfl))
                    try simp only [Act.put, List.setIfInBounds_toArray, List.set_cons_zero, List.set_cons_succ, List.getElem_toArray, List.getElem_cons_zero, List.getElem_cons_succ]
                    refine wpAnyH_take (i := 2) (v := ?_) rfl (by kernel_rfl) (by kernel_rfl) (by kernel_rfl) (fun _ _ _ h => h) (Or.inl ⟨by rfl, ?_⟩) (by assumption) ?_
                    rotate_left
                    · (intro w hSw; (try dsimp only at hSw); go_simp; (try with_reducible rfl))
                    try simp only [Act.put, List.setIfInBounds_toArray, List.set_cons_zero, List.set_cons_succ, List.getElem_toArray, List.getElem_cons_zero, List.getElem_cons_succ]
                    refine wpAnyH_take (i := 3) (v := ?_) rfl (by kernel_rfl) (by kernel_rfl) (by kernel_rfl) (fun _ _ _ h => h) (Or.inl ⟨by rfl, ?_⟩) (by assumption) ?_
                    rotate_left
                    · (intro w hSw; (try dsimp only at hSw); go_simp; (try with_reducible rfl))
                    try simp only [Act.put, List.setIfInBounds_toArray, List.set_cons_zero, List.set_cons_succ, List.getElem_toArray, List.getElem_cons_zero, List.getElem_cons_succ]
                    refine wpAnyH_take (i := 4) (v := ?_) rfl (by kernel_rfl) (by kernel_rfl) (by kernel_rfl) (fun _ _ _ h => h) (Or.inl ⟨by rfl, ?_⟩) (by assumption) ?_
                    rotate_left
                    · (intro w hSw; (try dsimp only at hSw); go_simp; (try with_reducible rfl))
                    try simp only [Act.put, List.setIfInBounds_toArray, List.set_cons_zero, List.set_cons_succ, List.getElem_toArray, List.getElem_cons_zero, List.getElem_cons_succ]
                    refine wpAnyH_take (i := 5) (v := ?_) rfl (by kernel_rfl) (by kernel_rfl) (by kernel_rfl) (fun _ _ _ h => h) (Or.inl ⟨by rfl, ?_⟩) (by assumption) ?_
                    rotate_left
                    · (intro w hSw; (try dsimp only at hSw); go_simp; (try with_reducible rfl))
                    try simp only [Act.put, List.setIfInBounds_toArray, List.set_cons_zero, List.set_cons_succ, List.getElem_toArray, List.getElem_cons_zero, List.getElem_cons_succ]
                    refine wpAnyH_take (i := 6) (v := ?_) rfl (by kernel_rfl) (by kernel_rfl) (by kernel_rfl) (fun _ _ _ h => h) (Or.inl ⟨by rfl, ?_⟩) (by assumption) ?_
                    rotate_left
                    · (intro w hSw; (try dsimp only at hSw); go_simp; (try with_reducible rfl))
                    try simp only [Act.put, List.setIfInBounds_toArray, List.set_cons_zero, List.set_cons_succ, List.getElem_toArray, List.getElem_cons_zero, List.getElem_cons_succ]
                    refine wpAnyH_take (i := 7) (v := ?_) rfl (by kernel_rfl) (by kernel_rfl) (by kernel_rfl) (fun _ _ _ h => h) (Or.inl ⟨by rfl, ?_⟩) (by assumption) ?_
                    rotate_left
                    · (intro w hSw; (try dsimp only at hSw); go_simp; (try with_reducible rfl))
                    try simp only [Act.put, List.setIfInBounds_toArray, List.set_cons_zero, List.set_cons_succ, List.getElem_toArray, List.getElem_cons_zero, List.getElem_cons_succ]
                    refine wpAnyH_take (i := 8) (v := ?_) rfl (by kernel_rfl) (by kernel_rfl) (by kernel_rfl) (fun _ _ _ h => h) (Or.inl ⟨by rfl, ?_⟩) (by assumption) ?_
                    rotate_left
                    · (intro w hSw; (try dsimp only at hSw); go_simp; (try with_reducible rfl))
                    try simp only [Act.put, List.setIfInBounds_toArray, List.set_cons_zero, List.set_cons_succ, List.getElem_toArray, List.getElem_cons_zero, List.getElem_cons_succ]
                    refine wpAnyH_take (i := 9) (v := ?_) rfl (by kernel_rfl) (by kernel_rfl) (by kernel_rfl) (fun _ _ _ h => h) (Or.inl ⟨by rfl, ?_⟩) (by assumption) ?_
                    rotate_left
                    · (intro w hSw; (try dsimp only at hSw); go_simp; (try with_reducible rfl))
                    try simp only [Act.put, List.setIfInBounds_toArray, List.set_cons_zero, List.set_cons_succ, List.getElem_toArray, List.getElem_cons_zero, List.getElem_cons_succ]
                    refine wpAnyH_take (i := 10) (v := ?_) rfl (by kernel_rfl) (by kernel_rfl) (by kernel_rfl) (fun _ _ _ h => h) (Or.inl ⟨by rfl, ?_⟩) (by assumption) ?_
                    rotate_left
                    · (intro w hSw; (try dsimp only at hSw); go_simp; (try with_reducible rfl))
                    try simp only [Act.put, List.setIfInBounds_toArray, List.set_cons_zero, List.set_cons_succ, List.getElem_toArray, List.getElem_cons_zero, List.getElem_cons_succ]
                    refine wpAnyH_take (i := 11) (v := ?_) rfl (by kernel_rfl) (by kernel_rfl) (by kernel_rfl) (fun _ _ _ h => h) (Or.inl ⟨by rfl, ?_⟩) (by assumption) ?_
                    rotate_left
                    · (intro w hSw; (try dsimp only at hSw); go_simp; (try with_reducible rfl))
                    try simp only [Act.put, List.setIfInBounds_toArray, List.set_cons_zero, List.set_cons_succ, List.getElem_toArray, List.getElem_cons_zero, List.getElem_cons_succ]
                    refine wpAnyH_take (i := 12) (v := ?_) rfl (by kernel_rfl) (by kernel_rfl) (by kernel_rfl) (fun _ _ _ h => h) (Or.inl ⟨by rfl, ?_⟩) (by assumption) ?_
                    rotate_left
                    · (intro w hSw; (try dsimp only at hSw); go_simp; (try with_reducible rfl))
                    try simp only [Act.put, List.setIfInBounds_toArray, List.set_cons_zero, List.set_cons_succ, List.getElem_toArray, List.getElem_cons_zero, List.getElem_cons_succ]
                    refine wpAnyH_ready (rs := [13]) (by kernel_rfl) (by simp) ?_
                    refine AllReadyH.cons rfl (fun K hK => ?_) AllReadyH.nil
                    go_simp
                    refine hK.out _ _ (by exact K1.out) (fun hHd13 => ?_)
                    clear hK K hHd
                    try simp only [Act.put, List.setIfInBounds_toArray, List.set_cons_zero, List.set_cons_succ, List.getElem_toArray, List.getElem_cons_zero, List.getElem_cons_succ]
                    refine wpAnyH_ready (rs := [14]) (by kernel_rfl) (by simp) ?_
                    refine AllReadyH.cons rfl (fun K hK => ?_) AllReadyH.nil
                    go_simp
                    refine hK.out _ _ (by exact K2'.out) (fun hHd14 => ?_)
                    clear hK K hHd13
                    try simp only [Act.put, List.setIfInBounds_toArray, List.set_cons_zero, List.set_cons_succ, List.getElem_toArray, List.getElem_cons_zero, List.getElem_cons_succ]
                    refine wpAnyH_take (i := 15) (v := ?_) rfl (by kernel_rfl) (by kernel_rfl) (by kernel_rfl) (fun _ _ _ h => h) (Or.inl ⟨by rfl, ?_⟩) (by assumption) ?_
                    rotate_left
                    · (intro w hSw; (try dsimp only at hSw); go_simp; (try with_reducible rfl))
                    try simp only [Act.put, List.setIfInBounds_toArray, List.set_cons_zero, List.set_cons_succ, List.getElem_toArray, List.getElem_cons_zero, List.getElem_cons_succ]
                    refine wpAnyH_ready (rs := [16]) (by kernel_rfl) (by simp) ?_
                    refine AllReadyH.cons rfl (fun K hK => ?_) AllReadyH.nil
                    go_simp
                    refine hK.out _ _ (by exact K3.out) (fun hHd16 => ?_)
                    clear hK K hHd14
                    try simp only [Act.put, List.setIfInBounds_toArray, List.set_cons_zero, List.set_cons_succ, List.getElem_toArray, List.getElem_cons_zero, List.getElem_cons_succ]
                    refine wpAnyH_done (by kernel_rfl) ?_ _
                    refine NoOut.normal ?_
                    gi_wp2_with fail
                    rw [← HRR.out]
                    have hs1 := (HSBN.out.keep ((Fr.refl [] Wb).drew)).name (k := id) (v := .string S) (l := nmT d) HS2.out.symm (o1 := o1) (o2 := o2) (by rw [HE4.out.2.2.2.2.2.2.2.1, HE4.out.2.2.2.2.2.2.2.2]; exact HM3.out)
                    rw [HE4.out.2.2.2.2.2.2.2.1, HE4.out.2.2.2.2.2.2.2.2, HNS.out] at hs1
                    have hlp := hs1.lp
                    have hpl := hs1.putL (o' := Rr .ready none)
                    rw [HE4.out.1] at hlp hpl
                    have hnk3 := HNK2.out
                    rw [HNS.out] at hnk3
                    refine ⟨hlp, .inl ⟨rfl, by omega, HE.out, hnk3, hpl⟩⟩
              · rintro e W2 ⟨⟨vv, rfl⟩, (⟨id, s1, A, ⟨hss, hid2, her, hnk, hst⟩, hid, hfA⟩ | ⟨hne, N', hst⟩)⟩
                · have hss' := hss.symm
                  subst hss'
                  refine ⟨⟨_, rfl⟩, .inl ?_⟩
                  have h2 := hst.keep hfA
                  have hl2 := h2.lp
                  rw [HE4.out.1, hR] at hl2
                  refine ⟨hl2, ?_⟩
                  generalize hWb : World.putObj W2 (D + 1) _ = Wb
                  have hsb : ToS P w fb p n s (Rr .exhausted none) 0 (upT R id ++ List.replicate (n - id) []) Wb := by
                    have h := h2.putL (o' := Rr .exhausted none)
                    rw [HE4.out.1] at h
                    rw [← hWb]
                    rw [HRR.out] at h ⊢
                    exact h
                  have hidn : id = R.length := by rw [HSR.out] at hid; have := HNN.out; omega
                  rw [hidn, ← HNN.out, Nat.sub_self, List.replicate_zero, List.append_nil, HNN.out, upT_all] at hnk hsb
                  rw [hidn, errT_end (Nat.le_refl _)] at her
                  have HOK : Hid (openT b kd vr = .ok (R.map nmO)) := Lib.hid (by rw [HOE.out, if_pos her])
                  have hfin := hsb.fin hnk (by rw [List.length_map]) HSS.out.2.2 (by rw [HSR.out]; exact (errT_recs R [] HSIZ.out her).symm)
                  obtain ⟨v1, v2, v3, v4, v5, f1, f2, s1', s2⟩ := VW.out _ _ _ _ (by rw [HNN.out]; exact hsb)
                  rw [HE4.out.2.1, HE4.out.2.2.1, HE4.out.2.2.2.1, HE4.out.2.2.2.2.2.2.1, HE4.out.2.2.2.2.2.2.2.1, HE4.out.2.2.2.2.2.2.2.2] at hfin
                  have HFIN := Lib.hid hfin
                  clear hWb hl2 h2 hfA hst hid hss HST hsb hnk her hfin hR v4 v5
                  go_wp2_with fail
                  obtain ⟨q1, q2, q3, q4, q5⟩ := HFIN.out
                  refine mark_ret q1 (results_c2T rfl _ _ ⟨w.heap.size, 0, none⟩ ⟨w.heap.size + 1, 0, none⟩ _ _ rfl rfl (load_pT q2) (load_eT q3)) ?_
                  exact .inr ⟨_, t, _, HOK.out, HWR.out, rfl, ⟨p, mb, _, fb, s, q5, HSS.out.1, HSS.out.2.1, rfl⟩, q4⟩
                · refine ⟨⟨_, rfl⟩, .inr ?_⟩
                  have hl2 := hst.lp
                  rw [HE4.out.1] at hl2
                  refine ⟨.ret, hR ▸ hl2, ?_⟩
                  generalize hWb : World.putObj W2 (D + 1) _ = Wb
                  have hsb : ToS P w fb p n s (Rr .exhausted (some .ret)) (errT [] R) N' Wb := by
                    have h := hst.putL (o' := Rr .exhausted (some .ret))
                    rw [HE4.out.1] at h
                    rw [← hWb]
                    rw [HRR.out] at h ⊢
                    exact h
                  have HOK : Hid (openT b kd vr = .error (errT [] R)) := Lib.hid (by rw [HOE.out, if_neg hne])
                  have hlf := hsb.left
                  have hdf := hsb.df
                  rw [HE4.out.2.1, HE4.out.2.2.1, HE4.out.2.2.2.1] at hlf
                  rw [HE4.out.2.1] at hdf
                  have HLF := Lib.hid hlf
                  have HDF := Lib.hid hdf
                  clear hWb hl2 hst HST hsb hne hlf hdf hR
                  gi_wp2_with fail
                  obtain ⟨q2, q3, q4⟩ := HLF.out
                  refine mark_ret HDF.out (results_c2T rfl _ _ ⟨w.heap.size, 0, none⟩ ⟨w.heap.size + 1, 0, none⟩ _ _ rfl rfl (load_pT q2) (load_eT q3)) ?_
                  exact .inl ⟨_, HOK.out, rfl, q4⟩
          · have hvi : ((v : Int) != vr) = true := by rw [bne_iff_ne]; exact hvr
            have HE : Hid (openT b kd vr = .error 8) := Lib.hid (by rw [HO.out, if_neg (by simp [hkd, hs42]), if_pos hvr])
            clear hkd hs42 hvr HOP HW
            go_wp2_with fail
            refine HKI.out.mono ?_
            rintro e w' ⟨rfl, rfl⟩
            go_wp2_with fail
            refine HSI.out.mono ?_
            rintro e w' ⟨rfl, rfl⟩
            go_wp2_with fail
            refine HVE.out.mono ?_
            rintro e w' ⟨rfl, rfl⟩
            go_wp2_with fail
            exact openT_err HE.out K1.out K2.out HF1.out rfl rfl
        · have hsi : ((sz : Int) != 42) = true := by rw [bne_iff_ne]; omega
          have HE : Hid (openT b kd vr = .error 111) := Lib.hid (by rw [HO.out, if_pos (.inr hs42)])
          clear hkd hs42 HOP HW
          go_wp2_with fail
          refine HKI.out.mono ?_
          rintro e w' ⟨rfl, rfl⟩
          go_wp2_with fail
          refine HSI.out.mono ?_
          rintro e w' ⟨rfl, rfl⟩
          go_wp2_with fail
          exact openT_err HE.out K1.out K2.out HF1.out rfl rfl
      · have hki : ((k : Int) != kd) = true := by rw [bne_iff_ne]; exact hkd
        have HE : Hid (openT b kd vr = .error 111) := Lib.hid (by rw [HO.out, if_pos (.inl hkd)])
        clear hkd HOP HW
        go_wp2_with fail
        refine HKI.out.mono ?_
        rintro e w' ⟨rfl, rfl⟩
        go_wp2_with fail
        exact openT_err HE.out K1.out K2.out HF1.out rfl rfl
end Go.Proofs.YtlckhfjkdahfpaaDoor
