/- The walk of ReconeNodeBytes. -/
import Derived.Test.YtbhmfbhfofgfaaaOneW
namespace Go.Proofs.Ytbhmfbhfofgfaaa
open Go.RowKit
attribute [local go_sem ↓] Go.wp_at_zero Go.wp_at_succ
theorem errNo_inv {l : List UInt8} (h : errNo l = 0) : noFine (nm l 0 4 - 1) (nm l 4 4 - 1) (labsOf (l.drop 8)) = true ∧ noB (nm l 0 4 - 1) (nm l 4 4 - 1) (labsOf (l.drop 8)) = l := by
  obtain ⟨h1, h2⟩ := errNo_0 h
  unfold noOk at h2
  rw [Bool.and_eq_true] at h2
  exact ⟨h2.2, noB_dec h1 h2.1⟩
theorem valNo_len (l : List UInt8) : (valNo l).2.2.length ≤ 100 := by
  by_cases h : errNo l = 0
  · rw [valNo_ok h]
    have h1 := labsOf_length (l.drop 8)
    rw [List.length_drop, (errNo_0 h).1] at h1
    simp only
    omega
  · rw [valNo_no h]; simp
set_option maxRecDepth 100000 in
set_option maxHeartbeats 3200000 in
theorem reconeNodeBytes_walk (a : Option Addr) (c : Nat) (l : List UInt8) (w : World) (hl : l.length ≤ 140737488351300) (hno : a = none → c = 0) (hc : l.length ≤ c) (hb : Bytes w a l) :
    Calls Try.prog 6 #[.slice a l.length c] w fun e w' => e = .returned (.bool true) ∧ Fr [] w w' := by
  have HB := Lib.hid hb
  have HNO := Lib.hid hno
  have HC := Lib.hid hc
  have HL0 := Lib.hid hl
  clear hb hno hc hl
  go_enter Try.func6, Try.ntmps6
  go_wp2_with fail
  refine (speaks12 w).mono ?_
  rintro e w1 ⟨rfl, hf1⟩
  have HF1 := Lib.hid hf1
  clear hf1
  go_wp2_with fail
  refine (clone_any a c l w1 HL0.out HNO.out (HB.out.keep HF1.out)).mono ?_
  rintro e w2 ⟨v, rfl, hv⟩
  obtain ⟨g, cap, rfl, _, _, hbv, hfv⟩ := hv.bytes
  have HV2 := Lib.hid hbv
  have HF2 := Lib.hid (HF1.out.trans hfv)
  clear hv hbv hfv
  obtain ⟨er, her⟩ : ∃ er, er = errNo l := ⟨_, rfl⟩
  obtain ⟨r, hr⟩ : ∃ r, r = valNo l := ⟨_, rfl⟩
  have HR := Lib.hid hr
  have HE := Lib.hid her
  have HRL := Lib.hid (show r.2.2.length ≤ 100 by rw [hr]; exact valNo_len l)
  clear hr her
  obtain ⟨z1, z2, L⟩ := r
  go_wp2_with fail
  refine (GetNo_any w2 (some ⟨g, 0, none⟩) cap l HV2.out).mono ?_
  rintro e w3 ⟨x, rfl, la, lc, rfl, ho3, hf3⟩
  rw [← HR.out] at ho3 ⊢
  rw [← HE.out]
  simp only at ho3 ⊢
  have HI3 := Lib.hid (ints_own_ ho3)
  have HF3 := Lib.hid (HF2.out.trans hf3)
  have HV3 := Lib.hid (HV2.out.keep hf3)
  clear ho3 hf3
  go_wp2_with fail
  obtain ⟨w4, hw4⟩ : ∃ w4, w4 = w3.alloc (.cells #[.int .i64 z1, .int .i64 z2, .slice la L.length lc] 43) := ⟨_, rfl⟩
  rw [← hw4]
  have HG4 := Lib.hid (show Fr [] w3 w4 by rw [hw4]; exact (Fr.refl _ _).alloc _)
  have HO4 := Lib.hid (show w4.heap[w3.heap.size]? = some (.cells #[.int .i64 z1, .int .i64 z2, .slice la L.length lc] 43) by rw [hw4]; exact heap_alloc_new w3 _)
  have HF4 := Lib.hid (HF3.out.trans HG4.out)
  clear hw4
  refine (refGetNo_all a c l w4 HC.out (HB.out.keep HF4.out)).mono ?_
  rintro e w5 ⟨x, rfl, lb, ld, rfl, ho5, hf5⟩
  rw [← HR.out] at ho5 ⊢
  rw [← HE.out]
  simp only at ho5 ⊢
  obtain ⟨w6, hw6⟩ : ∃ w6, w6 = w5.alloc (.cells #[.int .i64 z1, .int .i64 z2, .slice lb L.length ld] 43) := ⟨_, rfl⟩
  have hg6 : Fr [] w5 w6 := by rw [hw6]; exact (Fr.refl _ _).alloc _
  have o4 := hg6.obj (hf5.obj HO4.out (by simp)) (by simp)
  have o6 : w6.heap[w5.heap.size]? = some (.cells #[.int .i64 z1, .int .i64 z2, .slice lb L.length ld] 43) := by rw [hw6]; exact heap_alloc_new w5 _
  have HIA := Lib.hid (HI3.out.keep (HG4.out.trans (hf5.trans hg6)))
  have HIB := Lib.hid ((ints_own_ ho5).keep hg6)
  have HV6 := Lib.hid (HV3.out.keep (HG4.out.trans (hf5.trans hg6)))
  have HO6 := Lib.hid o4
  have HF6 := Lib.hid (HF4.out.trans (hf5.trans hg6))
  obtain ⟨x0, x1, x2⟩ := three o4
  obtain ⟨y0, y1, y2⟩ := three o6
  rw [hw6] at x0 x1 x2 y0 y1 y2
  have hltx : w3.heap.size < w5.heap.size := (Array.getElem?_eq_some_iff.1 (hf5.obj HO4.out (by simp))).1
  have HW6 := Lib.hid hw6
  have hLL : L.length ≤ 140737488351300 := by have : L.length ≤ 100 := HRL.out; omega
  clear hw6 hg6 o4 o6 ho5 hf5
  go_wp2_with fail
  rw [← HW6.out]
  refine (sameNode12_eq z1 z2 la lb lc ld L w6 hLL HIA.out HIB.out).mono ?_
  rintro e w7 ⟨rfl, hf7⟩
  have HF7 := Lib.hid (HF6.out.trans hf7)
  have HO7 := Lib.hid (hf7.obj HO6.out (by simp))
  have HI7 := Lib.hid (HIA.out.keep hf7)
  have hs := same_any (some ⟨g, 0, none⟩) a cap c l l w7 (fun h => by cases h) HNO.out (HV6.out.keep hf7) (HB.out.keep HF7.out)
  rw [beq_self_eq_true] at hs
  have HS := Lib.hid hs
  clear hf7 hs x0 x1 x2 y0 y1 y2 hltx
  go_wp2_with fail
  refine HS.out.mono ?_
  rintro e w8 ⟨rfl, rfl⟩
  by_cases h0 : er = 0
  · obtain ⟨hfin, hrb⟩ := errNo_inv (HE.out.symm.trans h0)
    have hval := valNo_ok (HE.out.symm.trans h0)
    rw [← HR.out] at hval
    simp only [Prod.mk.injEq] at hval
    obtain ⟨e1, e2, e3⟩ := hval
    rw [← e1, ← e2, ← e3] at hfin hrb
    have HFIN := Lib.hid hfin
    have HRB := Lib.hid hrb
    subst h0
    clear e1 e2 e3 hfin hrb
    obtain ⟨x0, x1, x2⟩ := three HO7.out
    go_wp2_with fail
    refine (PutNo_any w7 z1 z2 la lc L HI7.out hLL).mono ?_
    intro e w9 hp
    rw [noBad, HFIN.out, noU_B HFIN.out, HRB.out] at hp
    rcases hp.get with ⟨hx, _⟩ | ⟨_, v, rfl, hv⟩
    · cases hx
    obtain ⟨g8, cap8, rfl, _, _, hb8, hf8⟩ := hv.bytes
    have hs := same_any (some ⟨g8, 0, none⟩) a cap8 c l l w9 (fun h => by cases h) HNO.out hb8 (HB.out.keep (HF7.out.trans hf8))
    rw [beq_self_eq_true] at hs
    have HS9 := Lib.hid hs
    have HF9 := Lib.hid (HF7.out.trans hf8)
    clear hp hv hb8 hf8 hs x0 x1 x2
    go_wp2_with fail
    refine HS9.out.mono ?_
    rintro e w10 ⟨rfl, rfl⟩
    go_wp2
    go_ret
    exact ⟨rfl, HF9.out⟩
  · have hb0 : (er != 0) = true := by simp [h0]
    go_wp2
    go_ret
    exact ⟨rfl, HF7.out⟩
end Go.Proofs.Ytbhmfbhfofgfaaa
