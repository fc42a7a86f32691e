/- The walks of ReconeProps and ReconePropBytes. -/
import Derived.Test.YtbhmfbhfofgfaaaOneR
import Derived.Test.YtbhmfbhfofgfaaaOneJ
namespace Go.Proofs.Ytbhmfbhfofgfaaa
open Go.RowKit
attribute [local go_sem ↓] Go.wp_at_zero Go.wp_at_succ
theorem errPo_pB {r : PropV} (h : pFine r = true) (hn : -9223372036854775808 ≤ r.num ∧ r.num ≤ 9223372036854775807) : errPo (pB r) = 0 :=
  errPo_ok (pB_length r) (by rw [pRB_ok, (pDec_pB r h hn).2]; rfl)
theorem errPo_inv {l : List UInt8} (h : errPo l = 0) : l.length = 19 ∧ pFine (pDec l) = true ∧ pB (pDec l) = l := by
  obtain ⟨h1, h2⟩ := errPo_0 h
  rw [pRB_ok] at h2
  have h3 : pOk l = true := by simpa using h2
  unfold pOk at h3
  rw [Bool.and_eq_true] at h3
  refine ⟨h1, h3.1, ?_⟩
  have := pB_pDec h1 h3.1
  rw [h3.2] at this
  simpa using this

set_option maxRecDepth 100000 in
set_option maxHeartbeats 1600000 in
theorem reconeProps_walk (ky kd nu bl pv nx : Int) (w : World) (hn : -9223372036854775808 ≤ nu ∧ nu ≤ 9223372036854775807) :
    Calls Try.prog 7 #[.agg #[.int .i64 ky, .int .i64 kd, .int .i64 nu, .int .i64 bl, .int .i64 pv, .int .i64 nx]] w fun e w' => e = .returned (.bool true) ∧ Fr [] w w' := by
  have HN := Lib.hid hn
  clear hn
  go_enter Try.func7, Try.ntmps7
  go_wp2_with fail
  obtain ⟨wa, hwa⟩ : ∃ wa, wa = w.alloc (.cells #[.int .i64 ky, .int .i64 kd, .int .i64 nu, .int .i64 bl, .int .i64 pv, .int .i64 nx] 53) := ⟨_, rfl⟩
  rw [← hwa]
  have hfa : Fr [] w wa := by rw [hwa]; exact (Fr.refl _ _).alloc _
  have hba : wa.heap[w.heap.size]? = some (.cells #[.int .i64 ky, .int .i64 kd, .int .i64 nu, .int .i64 bl, .int .i64 pv, .int .i64 nx] 53) := by rw [hwa]; exact heap_alloc_new w _
  clear hwa
  refine (speaks12 wa).mono ?_
  rintro e w1 ⟨rfl, hf1⟩
  have hb1 := hf1.obj hba (by simp)
  have HB1 := Lib.hid hb1
  have HF1 := Lib.hid (hfa.trans hf1)
  have x0 := cell_of_row w1 _ 0 _ _ _ hb1
  have x1 := cell_of_row w1 _ 1 _ _ _ hb1
  have x2 := cell_of_row w1 _ 2 _ _ _ hb1
  have x3 := cell_of_row w1 _ 3 _ _ _ hb1
  have x4 := cell_of_row w1 _ 4 _ _ _ hb1
  have x5 := cell_of_row w1 _ 5 _ _ _ hb1
  clear hfa hba hf1 hb1
  cases hfin : pFine ⟨ky, kd, nu, bl, pv, nx⟩
  · have hbad : pBad ⟨ky, kd, nu, bl, pv, nx⟩ = true := by rw [pBad_fine, hfin]; rfl
    go_wp2_with fail
    refine (PutPo_any w1 ky kd nu bl pv nx).mono ?_
    intro e w2 hp
    obtain ⟨rfl, hf2⟩ : e = .returned (.tuple #[.slice none 0 0, .int .i64 41]) ∧ Fr [] w1 w2 := by
      rcases hp.get with ⟨_, h⟩ | ⟨hx, _⟩
      · exact h
      · rw [hbad] at hx; cases hx
    have hb2 := hf2.obj HB1.out (by simp)
    have HF2 := Lib.hid (HF1.out.trans hf2)
    clear x0 x1 x2 x3 x4 x5 hp hbad
    have x0 := cell_of_row w2 _ 0 _ _ _ hb2
    have x1 := cell_of_row w2 _ 1 _ _ _ hb2
    have x2 := cell_of_row w2 _ 2 _ _ _ hb2
    have x3 := cell_of_row w2 _ 3 _ _ _ hb2
    have x4 := cell_of_row w2 _ 4 _ _ _ hb2
    have x5 := cell_of_row w2 _ 5 _ _ _ hb2
    clear hb2 hf2
    go_wp2_with fail
    refine (refPutPo_any ky kd nu bl pv nx w2).mono ?_
    intro e w3 hp3
    rcases hp3.get with ⟨hx, _⟩ | ⟨_, v, rfl, hv⟩
    · rw [hfin] at hx; cases hx
    have HF3 := Lib.hid (HF2.out.trans hv.fr)
    obtain ⟨g, cap, rfl, _, _, hbv, _⟩ := hv.bytes
    have HS := Lib.hid (same_any none (some ⟨g, 0, none⟩) 0 cap [] [] w3 (fun _ => rfl) (fun h => by cases h) (Bytes.nil _ _) hbv)
    clear hp3 hv hbv hfin
    go_wp2_with fail
    refine HS.out.mono ?_
    rintro e w4 ⟨rfl, rfl⟩
    go_wp2
    go_ret
    exact ⟨rfl, HF3.out⟩
  · have hbad : pBad ⟨ky, kd, nu, bl, pv, nx⟩ = false := by rw [pBad_fine, hfin]; rfl
    go_wp2_with fail
    refine (PutPo_any w1 ky kd nu bl pv nx).mono ?_
    intro e w2 hp
    rcases hp.get with ⟨hx, _⟩ | ⟨_, v, rfl, hv⟩
    · rw [hbad] at hx; cases hx
    rw [pU_pB hfin] at hv
    have hb2 := hv.fr.obj HB1.out (by simp)
    have HB2 := Lib.hid hb2
    have HF2 := Lib.hid (HF1.out.trans hv.fr)
    clear x0 x1 x2 x3 x4 x5 hp hbad
    have x0 := cell_of_row w2 _ 0 _ _ _ hb2
    have x1 := cell_of_row w2 _ 1 _ _ _ hb2
    have x2 := cell_of_row w2 _ 2 _ _ _ hb2
    have x3 := cell_of_row w2 _ 3 _ _ _ hb2
    have x4 := cell_of_row w2 _ 4 _ _ _ hb2
    have x5 := cell_of_row w2 _ 5 _ _ _ hb2
    obtain ⟨g, cap, rfl, _, _, hbv, _⟩ := hv.bytes
    have HV := Lib.hid hbv
    clear hb2 hv hbv
    have HFIN := Lib.hid hfin
    obtain ⟨l, hl⟩ : ∃ l, l = pB ⟨ky, kd, nu, bl, pv, nx⟩ := ⟨_, rfl⟩
    rw [← hl] at HV ⊢
    have HL := Lib.hid hl
    clear hfin hl
    go_wp2_with fail
    refine (refPutPo_any ky kd nu bl pv nx w2).mono ?_
    intro e w3 hp3
    rcases hp3.get with ⟨_, u, rfl, hu⟩ | ⟨hx, _⟩
    rotate_left
    · rw [HFIN.out] at hx; cases hx
    rw [← HL.out] at hu
    have HF3 := Lib.hid (HF2.out.trans hu.fr)
    have HB3 := Lib.hid (hu.fr.obj HB2.out (by simp))
    have HV3 := Lib.hid (HV.out.keep hu.fr)
    obtain ⟨g', cap', rfl, _, _, hbu, _⟩ := hu.bytes
    have hs := same_any (some ⟨g, 0, none⟩) (some ⟨g', 0, none⟩) cap cap' _ _ w3 (fun h => by cases h) (fun h => by cases h) HV3.out hbu
    rw [beq_self_eq_true] at hs
    have HS := Lib.hid hs
    have HER := Lib.hid (show errPo l = 0 from by rw [HL.out]; exact errPo_pB HFIN.out HN.out)
    have HDE := Lib.hid (show pDec l = ⟨ky, kd, nu, bl, pv, nx⟩ from by rw [HL.out]; exact (pDec_pB _ HFIN.out HN.out).1)
    clear hp3 hu hbu hs x0 x1 x2 x3 x4 x5
    go_wp2_with fail
    refine HS.out.mono ?_
    rintro e w4 ⟨rfl, rfl⟩
    go_wp2_with fail
    refine (GetPo_any w3 (some ⟨g, 0, none⟩) cap l HV3.out).mono ?_
    rintro e w5 ⟨x, rfl, v, rfl, hf, hv⟩
    rw [if_pos HER.out, HDE.out] at hv
    subst hv
    rw [HER.out]
    have o5 := hf.obj HB3.out (by simp)
    have x0 := cell_of_row w5 _ 0 _ _ _ o5
    have x1 := cell_of_row w5 _ 1 _ _ _ o5
    have x2 := cell_of_row w5 _ 2 _ _ _ o5
    have x3 := cell_of_row w5 _ 3 _ _ _ o5
    have x4 := cell_of_row w5 _ 4 _ _ _ o5
    have x5 := cell_of_row w5 _ 5 _ _ _ o5
    have HF5 := Lib.hid (HF3.out.trans hf)
    have hlt := (Array.getElem?_eq_some_iff.1 o5).1
    clear hf o5
    simp only [PropV.cells]
    go_wp2
    go_ret
    exact ⟨rfl, HF5.out.alloc _⟩
/-- what a reading tells -/
def valPo (l : List UInt8) : PropV := if errPo l = 0 then pDec l else ⟨0, 0, 0, 0, 0, 0⟩
theorem GetPo.val {w w' : World} {l : List UInt8} {x : Value} (h : GetPo w l w' x) : x = .tuple #[.agg (valPo l).cells.toArray, .int .i64 (errPo l)] ∧ Fr [] w w' := by
  obtain ⟨v, rfl, hf, hv⟩ := h
  unfold valPo
  by_cases h0 : errPo l = 0
  · rw [if_pos h0] at hv ⊢
    rw [hv]
    exact ⟨rfl, hf⟩
  · rw [if_neg h0] at hv ⊢
    rw [hv]
    exact ⟨rfl, hf⟩
set_option maxRecDepth 100000 in
set_option maxHeartbeats 1600000 in
theorem reconePropBytes_walk (a : Option Addr) (c : Nat) (l : List UInt8) (w : World) (hl : l.length ≤ 140737488351300) (hno : a = none → c = 0) (hc : l.length ≤ c) (hb : Bytes w a l) :
    Calls Try.prog 8 #[.slice a l.length c] w fun e w' => e = .returned (.bool true) ∧ Fr [] w w' := by
  have HB := Lib.hid hb
  have HNO := Lib.hid hno
  have HC := Lib.hid hc
  have HL0 := Lib.hid hl
  obtain ⟨er, her⟩ : ∃ er, er = errPo l := ⟨_, rfl⟩
  obtain ⟨r, hr⟩ : ∃ r, r = valPo l := ⟨_, rfl⟩
  have HR := Lib.hid hr
  have HE := Lib.hid her
  clear hb hno hc hl hr her
  go_enter Try.func8, Try.ntmps8
  go_wp2_with fail
  refine (speaks12 w).mono ?_
  rintro e w1 ⟨rfl, hf1⟩
  have HF1 := Lib.hid hf1
  clear hf1
  go_wp2_with fail
  refine (clone_any a c l w1 HL0.out HNO.out (HB.out.keep HF1.out)).mono ?_
  rintro e w2 ⟨v, rfl, hv⟩
  obtain ⟨g, cap, rfl, _, _, hbv, hfv⟩ := hv.bytes
  have HV2 := Lib.hid hbv
  have HF2 := Lib.hid (HF1.out.trans hfv)
  clear hv hbv hfv
  go_wp2_with fail
  refine (GetPo_any w2 (some ⟨g, 0, none⟩) cap l HV2.out).mono ?_
  rintro e w3 ⟨x, rfl, hg3⟩
  obtain ⟨rfl, hf3⟩ := hg3.val
  rw [← HR.out, ← HE.out]
  obtain ⟨ky, kd, nu, bl, pv, nx⟩ := r
  simp only [PropV.cells]
  have HF3 := Lib.hid (HF2.out.trans hf3)
  clear hg3 hf3
  go_wp2_with fail
  obtain ⟨w4, hw4⟩ : ∃ w4, w4 = w3.alloc (.cells #[.int .i64 ky, .int .i64 kd, .int .i64 nu, .int .i64 bl, .int .i64 pv, .int .i64 nx] 53) := ⟨_, rfl⟩
  rw [← hw4]
  have HG4 := Lib.hid (show Fr [] w3 w4 by rw [hw4]; exact (Fr.refl _ _).alloc _)
  have HO4 := Lib.hid (show w4.heap[w3.heap.size]? = some (.cells #[.int .i64 ky, .int .i64 kd, .int .i64 nu, .int .i64 bl, .int .i64 pv, .int .i64 nx] 53) by rw [hw4]; exact heap_alloc_new w3 _)
  have HF4 := Lib.hid (HF3.out.trans HG4.out)
  clear hw4
  refine (refGetPo_all a c l w4 HC.out (HB.out.keep HF4.out)).mono ?_
  rintro e w5 ⟨x, rfl, hg5⟩
  obtain ⟨rfl, hf5⟩ := hg5.val
  rw [← HR.out, ← HE.out]
  simp only [PropV.cells]
  have HF5 := Lib.hid (HF4.out.trans hf5)
  obtain ⟨w6, hw6⟩ : ∃ w6, w6 = w5.alloc (.cells #[.int .i64 ky, .int .i64 kd, .int .i64 nu, .int .i64 bl, .int .i64 pv, .int .i64 nx] 53) := ⟨_, rfl⟩
  have hg6 : Fr [] w5 w6 := by rw [hw6]; exact (Fr.refl _ _).alloc _
  have o4 := hg6.obj (hf5.obj HO4.out (by simp)) (by simp)
  have o6 : w6.heap[w5.heap.size]? = some (.cells #[.int .i64 ky, .int .i64 kd, .int .i64 nu, .int .i64 bl, .int .i64 pv, .int .i64 nx] 53) := by rw [hw6]; exact heap_alloc_new w5 _
  have HO6 := Lib.hid o4
  have HF6 := Lib.hid (HF5.out.trans hg6)
  have x0 := cell_of_row w6 _ 0 _ _ _ o4
  have x1 := cell_of_row w6 _ 1 _ _ _ o4
  have x2 := cell_of_row w6 _ 2 _ _ _ o4
  have x3 := cell_of_row w6 _ 3 _ _ _ o4
  have x4 := cell_of_row w6 _ 4 _ _ _ o4
  have x5 := cell_of_row w6 _ 5 _ _ _ o4
  have y0 := cell_of_row w6 _ 0 _ _ _ o6
  have y1 := cell_of_row w6 _ 1 _ _ _ o6
  have y2 := cell_of_row w6 _ 2 _ _ _ o6
  have y3 := cell_of_row w6 _ 3 _ _ _ o6
  have y4 := cell_of_row w6 _ 4 _ _ _ o6
  have y5 := cell_of_row w6 _ 5 _ _ _ o6
  rw [hw6] at x0 x1 x2 x3 x4 x5 y0 y1 y2 y3 y4 y5
  have HW6 := Lib.hid hw6
  clear hw6 hg6 o4 o6 hg5 hf5
  by_cases h0 : er = 0
  · obtain ⟨hsz, hfin, hpb⟩ := errPo_inv (HE.out.symm.trans h0)
    have hrd : (⟨ky, kd, nu, bl, pv, nx⟩ : PropV) = pDec l := by rw [HR.out]; exact if_pos (HE.out.symm.trans h0)
    have hfin2 : pFine ⟨ky, kd, nu, bl, pv, nx⟩ = true := by rw [hrd]; exact hfin
    have hrb : pB ⟨ky, kd, nu, bl, pv, nx⟩ = l := by rw [hrd]; exact hpb
    have hbad : pBad ⟨ky, kd, nu, bl, pv, nx⟩ = false := by rw [pBad_fine, hfin2]; rfl
    have HPB := Lib.hid hbad
    have HPU := Lib.hid (show pU ⟨ky, kd, nu, bl, pv, nx⟩ = l from (pU_pB hfin2).trans hrb)
    subst h0
    clear hrb hfin2 hrd hfin hsz hbad hpb
    go_wp2_with fail
    rw [← HW6.out]
    refine (PutPo_any w6 ky kd nu bl pv nx).mono ?_
    intro e w8 hp
    rcases hp.get with ⟨hx, _⟩ | ⟨_, v, rfl, hv⟩
    · rw [HPB.out] at hx; cases hx
    rw [HPU.out] at hv
    obtain ⟨g8, cap8, rfl, _, _, hb8, hf8⟩ := hv.bytes
    have hs := same_any (some ⟨g8, 0, none⟩) a cap8 c l l w8 (fun h => by cases h) HNO.out hb8 (HB.out.keep (HF6.out.trans hf8))
    rw [beq_self_eq_true] at hs
    have HS := Lib.hid hs
    have HF8 := Lib.hid (HF6.out.trans hf8)
    clear hp hv hb8 hf8 hs
    go_wp2_with fail
    refine HS.out.mono ?_
    rintro e w9 ⟨rfl, rfl⟩
    go_wp2
    go_ret
    exact ⟨rfl, HF8.out⟩
  · have hb0 : (er != 0) = true := by simp [h0]
    go_wp2
    go_ret
    exact ⟨rfl, by rw [← HW6.out]; exact HF6.out⟩
end Go.Proofs.Ytbhmfbhfofgfaaa
