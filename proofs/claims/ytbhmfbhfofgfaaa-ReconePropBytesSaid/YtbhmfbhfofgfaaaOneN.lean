/- The document's PutProp of version 1. -/
import Derived.Test.YtbhmfbhfofgfaaaOneM
namespace Go.Proofs.Ytbhmfbhfofgfaaa
open Go.RowKit
attribute [local go_sem ↓] Go.wp_at_zero Go.wp_at_succ
theorem two0 {w : World} {b T : Nat} {c0 c1 c2 c3 c4 c5 : Value} (h : w.heap[b]? = some (.cells #[c0, c1, c2, c3, c4, c5] T)) : w.cell? ⟨b, 0, none⟩ = some c0 ∧ w.cell? ⟨b, 1, none⟩ = some c1 :=
  ⟨cell_of_row _ _ 0 _ _ _ h, cell_of_row _ _ 1 _ _ _ h⟩
/-- what the document's PutProp gives -/
def RefPutP (w w' : World) (e : Ending) (r : PropV) : Prop :=
  if pFine r = true then ∃ v, e = .returned (.tuple #[v, .int .i64 0]) ∧ Fresh w.heap.size w w' v (pB r) else ∃ v, e = .returned (.tuple #[v, .int .i64 41]) ∧ Fresh w.heap.size w w' v []
theorem RefPutP.yes {w w' : World} {v : Value} {r : PropV} (h : pFine r = true) (hf : Fresh w.heap.size w w' v (pB r)) : RefPutP w w' (.returned (.tuple #[v, .int .i64 0])) r := by
  unfold RefPutP; rw [if_pos h]; exact ⟨v, rfl, hf⟩
theorem RefPutP.no {w w' : World} {v : Value} {r : PropV} (h : pFine r = false) (hf : Fresh w.heap.size w w' v []) : RefPutP w w' (.returned (.tuple #[v, .int .i64 41])) r := by
  unfold RefPutP; rw [if_neg (by rw [h]; simp)]; exact ⟨v, rfl, hf⟩
set_option maxHeartbeats 800000 in
theorem refPutPo_head (ky kd nu bl pv nx : Int) (w : World) (h : (inB ky 0 200 && (inB kd 1 9 && (inB pv (-1) 65536 && inB nx (-1) 65536))) = false) :
    Calls Try.prog 23 #[.agg #[.int .i64 ky, .int .i64 kd, .int .i64 nu, .int .i64 bl, .int .i64 pv, .int .i64 nx]] w fun e w' => RefPutP w w' e ⟨ky, kd, nu, bl, pv, nx⟩ := by
  have HFN : Hid (pFine ⟨ky, kd, nu, bl, pv, nx⟩ = false) := by
    refine Lib.hid ?_
    unfold pFine
    simp only
    cases h1 : inB ky 0 200
    · rfl
    · cases h2 : inB kd 1 9
      · rfl
      · cases h3 : inB pv (-1) 65536
        · rfl
        · cases h4 : inB nx (-1) 65536
          · rfl
          · rw [h1, h2, h3, h4] at h; cases h
  have H := Lib.hid h; clear h
  cases h1 : inB ky 0 200
  · go_enter Try.func23, Try.ntmps23
    go_wp2_with (go_at_call 29; refine (In_any _ _ _ _).mono ?_; rintro e w1 ⟨rfl, rfl⟩)
    go_ret2
    exact .no HFN.out (fresh_empty (by simp) ((Fr.refl _ _).alloc _))
  · cases h2 : inB kd 1 9
    · go_enter Try.func23, Try.ntmps23
      go_wp2_with (go_at_call 29; refine (In_any _ _ _ _).mono ?_; rintro e w1 ⟨rfl, rfl⟩)
      go_ret2
      exact .no HFN.out (fresh_empty (by simp) ((Fr.refl _ _).alloc _))
    · cases h3 : inB pv (-1) 65536
      · go_enter Try.func23, Try.ntmps23
        go_wp2_with (go_at_call 29; refine (In_any _ _ _ _).mono ?_; rintro e w1 ⟨rfl, rfl⟩)
        go_ret2
        exact .no HFN.out (fresh_empty (by simp) ((Fr.refl _ _).alloc _))
      · cases h4 : inB nx (-1) 65536
        · go_enter Try.func23, Try.ntmps23
          go_wp2_with (go_at_call 29; refine (In_any _ _ _ _).mono ?_; rintro e w1 ⟨rfl, rfl⟩)
          go_ret2
          exact .no HFN.out (fresh_empty (by simp) ((Fr.refl _ _).alloc _))
        · exfalso
          have := H.out
          rw [h1, h2, h3, h4] at this; cases this
theorem wrap8_small {z : Int} (h0 : 0 ≤ z) (h1 : z < 256) : IntKind.u8.wrap z = I8 (UInt8.ofNat z.toNat) := by
  have hz : z = (z.toNat : Int) := by omega
  rw [← byteU z.toNat, U_lt _ (by omega), ← hz]
set_option maxRecDepth 100000 in
set_option maxHeartbeats 3200000 in
theorem refPutPo_in (ky kd nu bl pv nx : Int) (w : World) (h1 : inB ky 0 200 = true) (h2 : inB kd 1 9 = true) (h3 : inB pv (-1) 65536 = true) (h4 : inB nx (-1) 65536 = true) :
    Calls Try.prog 23 #[.agg #[.int .i64 ky, .int .i64 kd, .int .i64 nu, .int .i64 bl, .int .i64 pv, .int .i64 nx]] w fun e w' => RefPutP w w' e ⟨ky, kd, nu, bl, pv, nx⟩ := by
  obtain ⟨a1, a2⟩ := inB_iff.1 h1
  obtain ⟨b1, b2⟩ := inB_iff.1 h2
  obtain ⟨d1, d2⟩ := inB_iff.1 h3
  obtain ⟨e1, e2⟩ := inB_iff.1 h4
  obtain ⟨x, hx⟩ : ∃ x, x = UInt8.ofNat kd.toNat := ⟨_, rfl⟩
  have hkx : IntKind.u8.wrap kd = I8 x := by rw [hx]; exact wrap8_small (by omega) (by omega)
  have q1 : IntKind.u64.wrap ky = ky := wrapU_int _ (by omega) (by omega)
  have HPF := Lib.hid (show pFine ⟨ky, kd, nu, bl, pv, nx⟩ = (if kd ≤ 3 then decide (bl = -1) else (decide (nu = 0) && inB bl 0 65536)) by unfold pFine; simp only [h1, h2, h3, h4, Bool.true_and])
  have HPB := Lib.hid (show pB ⟨ky, kd, nu, bl, pv, nx⟩ = by8 2 ky.toNat ++ [x] ++ (if kd ≤ 3 then by8 8 (uNum nu).toNat else by8 8 (bl + 1).toNat) ++ by8 4 (pv + 1).toNat ++ by8 4 (nx + 1).toNat by rw [hx]; rfl)
  have t2 : Wd 2 := by unfold Wd; omega
  have T2 := Lib.hid t2
  have u1 : ky < 18446744073709551616 := by omega
  have HNUM : Hid (∀ w, Calls Try.prog 45 #[.int .i64 2, .int .u64 ky] w fun e w' => ∃ v, e = .returned v ∧ Fresh w.heap.size w w' v (by8 2 ky.toNat)) := Lib.hid fun w => refnum_int 2 ky w T2.out a1 u1
  clear hx t2
  go_enter Try.func23, Try.ntmps23
  go_upto_region 3 with (go_at_call 29; refine (In_any _ _ _ _).mono ?_; rintro e w1 ⟨rfl, rfl⟩)
  obtain ⟨wa, hwa⟩ : ∃ wa, wa = w.alloc (.cells #[.int .i64 ky, .int .i64 kd, .int .i64 nu, .int .i64 bl, .int .i64 pv, .int .i64 nx] 53) := ⟨_, rfl⟩
  rw [← hwa]
  have hba : wa.heap[w.heap.size]? = some (.cells #[.int .i64 ky, .int .i64 kd, .int .i64 nu, .int .i64 bl, .int .i64 pv, .int .i64 nx] 53) := by rw [hwa]; exact heap_alloc_new w _
  have hfa : Fr [] w wa := by rw [hwa]; exact (Fr.refl _ _).alloc _
  clear hwa h1 h2 h3 h4
  have hbd : wa.drew.heap[w.heap.size]? = some (.cells #[.int .i64 ky, .int .i64 kd, .int .i64 nu, .int .i64 bl, .int .i64 pv, .int .i64 nx] 53) := hba
  have hbz : (wa.alloc (.cells #[.int .u8 (I8 x)] 5)).drew.heap[w.heap.size]? = some (.cells #[.int .i64 ky, .int .i64 kd, .int .i64 nu, .int .i64 bl, .int .i64 pv, .int .i64 nx] 53) := ((Fr.refl [] wa).alloc _).obj hba (by simp)
  have HFD := Lib.hid (show Fr [] w wa.drew from hfa.drew)
  have HFZ := Lib.hid (show Fr [] w (wa.alloc (.cells #[.int .u8 (I8 x)] 5)).drew from (hfa.alloc _).drew)
  have HBZ := Lib.hid (show Bytes (wa.alloc (.cells #[.int .u8 (I8 x)] 5)).drew (some ⟨wa.heap.size, 0, none⟩) [x] from (Bytes.one x rfl).keep ((Fr.refl _ _).drew))
  have HJ1 : Hid (∀ wA vA, Fresh wa.drew.heap.size wa.drew wA vA (by8 2 ky.toNat) → Calls Try.prog 30 #[vA, .slice (some ⟨wA.heap.size, 0, none⟩) 1 1] (wA.alloc (.cells #[.int .u8 (I8 x)] 5)) fun e w' => ∃ v', e = .returned v' ∧ Fresh wa.heap.size wa w' v' (by8 2 ky.toNat ++ [x])) := by
    refine Lib.hid fun wA vA hA => ?_
    refine (Joined_grow [] wa.drew (wA.alloc (.cells #[.int .u8 (I8 x)] 5)) vA _ (some ⟨wA.heap.size, 0, none⟩) 1 [x] (hA.grow.alloc _) (Bytes.one x rfl) (.inr fun ad e => by cases e; exact ⟨fun e => by have h5 : wA.heap.size < wA.heap.size := (own_lt hA.grow.own e).2; omega, by simp⟩) (by rw [by8_length, List.length_singleton]; decide)).mono ?_
    rintro e wC ⟨vC, rfl, hC0, _⟩
    exact ⟨vC, rfl, hC0.fresh.base (Fr.refl [] wa).drew (Nat.le_refl _)⟩
  have HJ2 : Hid (∀ wA vA, Fresh (wa.alloc (.cells #[.int .u8 (I8 x)] 5)).drew.heap.size (wa.alloc (.cells #[.int .u8 (I8 x)] 5)).drew wA vA (by8 2 ky.toNat) → Calls Try.prog 30 #[vA, .slice (some ⟨wa.heap.size, 0, none⟩) 1 1] wA fun e w' => ∃ v', e = .returned v' ∧ Fresh wa.heap.size wa w' v' (by8 2 ky.toNat ++ [x])) := by
    refine Lib.hid fun wA vA hA => ?_
    refine (Joined_grow [] _ wA vA _ (some ⟨wa.heap.size, 0, none⟩) 1 [x] hA.grow (HBZ.out.keep hA.fr) (.inr fun ad e => by cases e; exact ⟨fun e => by have h5 := (own_lt hA.grow.own e).1; have h6 : (wa.alloc (.cells #[.int .u8 (I8 x)] 5)).drew.heap.size = wa.heap.size + 1 := (show (wa.alloc (.cells #[.int .u8 (I8 x)] 5)).heap.size = wa.heap.size + 1 by simp); rw [h6] at h5; simp only at h5; omega, by have h5 := hA.fr.size; have h6 : (wa.alloc (.cells #[.int .u8 (I8 x)] 5)).drew.heap.size = wa.heap.size + 1 := (show (wa.alloc (.cells #[.int .u8 (I8 x)] 5)).heap.size = wa.heap.size + 1 by simp); rw [h6] at h5; simp only; omega⟩) (by rw [by8_length, List.length_singleton]; decide)).mono ?_
    rintro e wC ⟨vC, rfl, hC0, _⟩
    exact ⟨vC, rfl, hC0.fresh.base (((Fr.refl [] wa).alloc _).drew) (((Fr.refl [] wa).alloc _).drew).size⟩
  go_cut [4] (fun v wx => Fresh wa.heap.size wa wx v (by8 2 ky.toNat ++ [x]))
  case first =>
    go_region_held3 (fun w' => w'.cell? ⟨w.heap.size, 0, none⟩ = some (.int .i64 ky) ∧ w'.cell? ⟨w.heap.size, 1, none⟩ = some (.int .i64 kd))
      (first
        | with_reducible assumption
        | exact two0 hbd
        | exact two0 hbz
        | exact two0 hrw
        | exact two0 hrA
        | exact two0 (((Fr.refl [] _).alloc _).obj hrA (by simp)))
      (first
        | (go_at_call 45; refine (HNUM.out _).mono ?_; rintro e wA ⟨vA, rfl, hA⟩; have hrA := hA.fr.obj (by first | exact hbd | exact hbz) (by simp))
        | (go_at_call 30; with_reducible (refine (HJ1.out _ _ hA).mono ?_); rintro e wC ⟨vC, rfl, hC⟩; have hrw := hC.fr.obj hba (by simp))
        | (go_at_call 30; with_reducible (refine (HJ2.out _ _ hA).mono ?_); rintro e wC ⟨vC, rfl, hC⟩; have hrw := hC.fr.obj hba (by simp)))
    all_goals go_wp2_with fail
    all_goals go_meet
    all_goals exact hC
  case rest =>
    have hC := hcut
    have HC := Lib.hid hC
    have hrw := hC.fr.obj hba (by simp)
    have HBA := Lib.hid hba
    have HFA := Lib.hid hfa
    have x1 := cell_of_row wc _ 1 _ _ _ hrw
    have x2 := cell_of_row wc _ 2 _ _ _ hrw
    have x3 := cell_of_row wc _ 3 _ _ _ hrw
    have HLN := Lib.hid (show (by8 2 ky.toNat ++ [x]).length = 3 by rw [List.length_append, by8_length]; rfl)
    have hunum := uNum_bd nu
    have qn : IntKind.u64.wrap nu = uNum nu := rfl
    clear hcut hba hfa hC hrw q1 hkx hbd hbz HFD HFZ HBZ HJ1 HJ2 HNUM
    by_cases hk : kd ≤ 3
    · have hk4 : kd < 4 := by omega
      have hd : decide (kd < 4) = true := decide_eq_true hk4
      rw [if_pos hk] at HPF HPB
      by_cases hb : bl = -1
      · have hbb : (bl != -1) = false := by rw [bne_eq_false_iff_eq]; exact hb
        have HFIN := Lib.hid (show pFine ⟨ky, kd, nu, bl, pv, nx⟩ = true by rw [HPF.out, decide_eq_true hb])
        obtain ⟨M, hM⟩ : ∃ M, M = by8 8 (uNum nu).toNat := ⟨_, rfl⟩
        have HM := Lib.hid hM
        have HML := Lib.hid (show M.length = 8 by rw [hM, by8_length])
        rw [← hM] at HPB
        clear hM
        go_wp2_with fail
        refine (refnum_int 8 (uNum nu) wc (by unfold Wd; omega) hunum.1 hunum.2).mono ?_
        rw [← HM.out]
        rintro e w2 ⟨v2, rfl, h2⟩
        have HJ := Lib.hid (Joined_fresh wa wc w2 u4 v2 _ _ HC.out.grow h2 (by rw [HLN.out, HML.out]; decide))
        clear h2 x1 x2 x3
        go_wp2_with fail
        refine HJ.out.mono ?_
        rintro e w3 ⟨v3, rfl, h3⟩
        have HC3 := Lib.hid h3.fresh
        have x4 := cell_of_row w3 _ 4 _ _ _ (h3.fr.obj HBA.out (by simp))
        clear h3
        go_wp2_with fail
        refine (Ptr_any pv w3 d1 (by omega)).mono ?_
        rintro e w4 ⟨v4, rfl, h4⟩
        have HJ4 := Lib.hid (Joined_fresh wa w3 w4 v3 v4 _ _ HC3.out.grow h4 (by rw [List.length_append, HLN.out, HML.out, by8_length]; decide))
        clear h4 x4
        go_wp2_with fail
        refine HJ4.out.mono ?_
        rintro e w5 ⟨v5, rfl, h5⟩
        have HC5 := Lib.hid h5.fresh
        have x5 := cell_of_row w5 _ 5 _ _ _ (h5.fr.obj HBA.out (by simp))
        clear h5
        go_wp2_with fail
        refine (Ptr_any nx w5 e1 (by omega)).mono ?_
        rintro e w6 ⟨v6, rfl, h6⟩
        have HJ6 := Lib.hid (Joined_fresh wa w5 w6 v5 v6 _ _ HC5.out.grow h6 (by rw [List.length_append, List.length_append, HLN.out, HML.out, by8_length, by8_length]; decide))
        clear h6 x5
        go_wp2_with fail
        refine HJ6.out.mono ?_
        rintro e w7 ⟨v7, rfl, h7⟩
        have HC7 := Lib.hid h7.fresh
        clear h7
        go_wp2
        go_ret2
        exact .yes HFIN.out (by rw [HPB.out]; exact HC7.out.base HFA.out HFA.out.size)
      · have hbb : (bl != -1) = true := by rw [bne_iff_ne]; exact hb
        have HFIN := Lib.hid (show pFine ⟨ky, kd, nu, bl, pv, nx⟩ = false by rw [HPF.out, decide_eq_false hb])
        have HFC := Lib.hid (HFA.out.trans HC.out.fr)
        go_wp2_with fail
        go_ret2
        exact .no HFIN.out (fresh_empty rfl HFC.out)
    · have hk4 : ¬ kd < 4 := by omega
      have hd : decide (kd < 4) = false := decide_eq_false hk4
      rw [if_neg hk] at HPF HPB
      by_cases hn : nu = 0
      · have hnn : (nu != 0) = false := by rw [bne_eq_false_iff_eq]; exact hn
        cases hb : inB bl 0 65536
        · have HFIN := Lib.hid (show pFine ⟨ky, kd, nu, bl, pv, nx⟩ = false by rw [HPF.out, hb, Bool.and_false])
          have HFC := Lib.hid (HFA.out.trans HC.out.fr)
          clear qn hn
          go_wp2_with (go_at_call 29; refine (In_any _ _ _ _).mono ?_; rintro e w1 ⟨rfl, rfl⟩)
          go_ret2
          exact .no HFIN.out (fresh_empty rfl HFC.out)
        · have HFIN := Lib.hid (show pFine ⟨ky, kd, nu, bl, pv, nx⟩ = true by rw [HPF.out, hb, hn]; rfl)
          obtain ⟨b0, b1'⟩ := inB_iff.1 hb
          have q2 : IntKind.u64.wrap (bl + 1) = bl + 1 := wrapU_int _ (by omega) (by omega)
          obtain ⟨M, hM⟩ : ∃ M, M = by8 8 (bl + 1).toNat := ⟨_, rfl⟩
          have HM := Lib.hid hM
          have HML := Lib.hid (show M.length = 8 by rw [hM, by8_length])
          rw [← hM] at HPB
          have HB01 := Lib.hid (show 0 ≤ bl + 1 ∧ bl + 1 < 18446744073709551616 by omega)
          have T8 := Lib.hid (show Wd 8 by unfold Wd; omega)
          clear hM qn hn
          go_wp2_with (go_at_call 29; refine (In_any _ _ _ _).mono ?_; rintro e w1 ⟨rfl, rfl⟩)
          refine (refnum_int 8 (bl + 1) wc T8.out HB01.out.1 HB01.out.2).mono ?_
          rw [← HM.out]
          rintro e w2 ⟨v2, rfl, h2⟩
          have HJ := Lib.hid (Joined_fresh wa wc w2 u4 v2 _ _ HC.out.grow h2 (by rw [HLN.out, HML.out]; decide))
          clear h2 x1 x2 x3
          go_wp2_with fail
          refine HJ.out.mono ?_
          rintro e w3 ⟨v3, rfl, h3⟩
          have HC3 := Lib.hid h3.fresh
          have x4 := cell_of_row w3 _ 4 _ _ _ (h3.fr.obj HBA.out (by simp))
          clear h3
          go_wp2_with fail
          refine (Ptr_any pv w3 d1 (by omega)).mono ?_
          rintro e w4 ⟨v4, rfl, h4⟩
          have HJ4 := Lib.hid (Joined_fresh wa w3 w4 v3 v4 _ _ HC3.out.grow h4 (by rw [List.length_append, HLN.out, HML.out, by8_length]; decide))
          clear h4 x4
          go_wp2_with fail
          refine HJ4.out.mono ?_
          rintro e w5 ⟨v5, rfl, h5⟩
          have HC5 := Lib.hid h5.fresh
          have x5 := cell_of_row w5 _ 5 _ _ _ (h5.fr.obj HBA.out (by simp))
          clear h5
          go_wp2_with fail
          refine (Ptr_any nx w5 e1 (by omega)).mono ?_
          rintro e w6 ⟨v6, rfl, h6⟩
          have HJ6 := Lib.hid (Joined_fresh wa w5 w6 v5 v6 _ _ HC5.out.grow h6 (by rw [List.length_append, List.length_append, HLN.out, HML.out, by8_length, by8_length]; decide))
          clear h6 x5
          go_wp2_with fail
          refine HJ6.out.mono ?_
          rintro e w7 ⟨v7, rfl, h7⟩
          have HC7 := Lib.hid h7.fresh
          clear h7
          go_wp2
          go_ret2
          exact .yes HFIN.out (by rw [HPB.out]; exact HC7.out.base HFA.out HFA.out.size)
      · have hnn : (nu != 0) = true := by rw [bne_iff_ne]; exact hn
        have HFIN := Lib.hid (show pFine ⟨ky, kd, nu, bl, pv, nx⟩ = false by rw [HPF.out, decide_eq_false hn]; rfl)
        have HFC := Lib.hid (HFA.out.trans HC.out.fr)
        clear qn
        go_wp2_with (go_at_call 29; refine (In_any _ _ _ _).mono ?_; rintro e w1 ⟨rfl, rfl⟩)
        go_ret2
        exact .no HFIN.out (fresh_empty rfl HFC.out)
end Go.Proofs.Ytbhmfbhfofgfaaa
