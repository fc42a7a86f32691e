/- The document's GetNode of version 1. -/
import Derived.Test.YtbhmfbhfofgfaaaOneU
import Derived.Deep.MidRow
namespace Go.Proofs.Ytbhmfbhfofgfaaa
open Go.RowKit
attribute [local go_sem ↓] Go.wp_at_zero Go.wp_at_succ
def ZatN (w : World) (g : Nat) : Prop := w.heap[g]? = some (.cells #[.int .i64 0, .int .i64 0, .slice none 0 0] 43)
theorem ZatN.there {w : World} {g : Nat} (h : ZatN w g) : w.there g 0 3 := by
  intro j hj
  unfold ZatN at h
  refine ⟨?_, frozen_of_row w g _ _ _ h⟩
  rw [cell_of_row w g _ _ _ _ h]
  simp only [Nat.zero_add]
  rw [Array.getElem?_eq_getElem (by simpa using hj)]
  rfl
theorem ZatN.alloc (w : World) : ZatN (w.alloc (.cells #[.int .i64 0, .int .i64 0, .slice none 0 0] 43)) w.heap.size := heap_alloc_new w _
theorem ZatN.allocD (w : World) : ZatN (w.alloc (.cells #[.int .i64 0, .int .i64 0, .slice none 0 0] 43)).drew w.heap.size := heap_alloc_new w _
def isNo1 : Value → Bool
  | .agg ⟨[.int .i64 _, .int .i64 _, .slice _ _ _]⟩ => true
  | _ => false
theorem isNo1_a (z1 z2 : Int) (a : Option Addr) (n c : Nat) : isNo1 (.agg #[.int .i64 z1, .int .i64 z2, .slice a n c]) = true := rfl
theorem no1_eq {v : Value} (h : isNo1 v = true) : v = .agg (vcs v).toArray ∧ (vcs v).toArray.size = 3 ∧ (vcs v).toArray.all (·.oneCell') = true := by
  unfold isNo1 at h
  split at h
  · exact ⟨rfl, rfl, by simp [vcs, Value.oneCell']⟩
  · cases h
theorem wp_storeM' {d : Option Tmp} {x y : Operand} {ty : TypeId} {ps : String} {af : Array Edge} {a : Act} {w : World} {K : Act → World → Prop} {Q : Exit → Act → World → Prop} (b : Nat) (cs : List Value)
    (hz : w.there b 0 cs.toArray.size) (hi : (Try.prog.info? 43).map (·.size) = some cs.toArray.size) (h1 : cs.toArray.all (·.oneCell') = true) (hx : a.eval x = .pointer (some ⟨b, 0, none⟩)) (hy : a.eval y = .agg cs.toArray) :
    Oper.wp Try.prog { dst := d, op := .store 43 x y, type := ty, pos := ps, after := af, guard := none } a w K Q = K (a.put d undef) (w.setCells b 0 cs) := by
  unfold Oper.wp execOp
  simp only [hx, hy, Instr.storeAt, Instr.sureAddr, Sem.run_bind, Sem.run_pure, Result.andThen_ok, run_storeVar_mid w b 0 43 cs.toArray hz hi h1]
  rfl
/-- a whole node goes into a variable, in a region that draws its order -/
theorem wp_storeM {d : Option Tmp} {x y : Operand} {ty : TypeId} {ps : String} {af : Array Edge} {a : Act} {w : World} {K : Act → World → Prop} {Q : Exit → Act → World → Prop}
    (hz : ZatN w (adr (a.eval x))) (hx : isAt0 (a.eval x) = true) (hy : isNo1 (a.eval y) = true) :
    Oper.wp Try.prog { dst := d, op := .store 43 x y, type := ty, pos := ps, after := af, guard := none } a w K Q = K (a.put d undef) (w.setCells (adr (a.eval x)) 0 (vcs (a.eval y))) := by
  obtain ⟨e2, hs, h1⟩ := no1_eq hy
  exact wp_storeM' _ _ (by rw [hs]; exact hz.there) (by rw [hs]; exact infoNo) h1 (at0_eq hx) e2
attribute [local go_sem ↓] wp_storeM
attribute [local go_sem] adr_p vcs_a isAt0_p isNo1_a ZatN.alloc ZatN.allocD
theorem refGetNo_size (a : Option Addr) (c : Nat) (l : List UInt8) (w : World) (h : l.length ≠ 16) :
    Calls Try.prog 21 #[.slice a l.length c] w fun e w' => ∃ x, e = .returned x ∧ GetNo w l w' x := by
  have hb : ((l.length : Int) != 16) = true := by rw [bne_iff_ne]; omega
  have H := Lib.hid h; clear h
  go_enter Try.func21, Try.ntmps21
  go_wp2
  exact bodyPost_ret (v := .tuple #[zNo, .int .i64 4]) (by simp [results, Try.results21, go_sem, zNo]) rfl ⟨_, rfl, GetNo.no (errNo_size H.out) (by decide) (((Fr.refl _ _).alloc _).alloc _)⟩
set_option maxRecDepth 100000 in
set_option maxHeartbeats 4000000 in
theorem refGetNo_any (a : Option Addr) (c : Nat) (l : List UInt8) (w : World) (h : l.length = 16) (hc : l.length ≤ c) (hb : Bytes w a l) :
    Calls Try.prog 21 #[.slice a l.length c] w fun e w' => ∃ x, e = .returned x ∧ GetNo w l w' x := by
  have HL := Lib.hid h
  have hle : l.length ≤ 100 := by omega
  have hc8 : (8 : Int) ≤ (c : Int) := by omega
  have hc16 : (16 : Int) ≤ (c : Int) := by omega
  have hne : ¬ c = 8 := by omega
  have HB := Lib.hid hb
  obtain ⟨ab, ao, rfl, _⟩ := hb.at (by omega)
  have n1 := nm_le l 0 4 (by omega)
  have n2 : IntKind.i64.wrap ((nm l 0 4 : Int) - 1) = (nm l 0 4 : Int) - 1 := IntWalk.i64_in _ (by omega)
  have n3 := nm_le l 4 4 (by omega)
  have n4 : IntKind.i64.wrap ((nm l 4 4 : Int) - 1) = (nm l 4 4 : Int) - 1 := IntWalk.i64_in _ (by omega)
  rw [h]
  clear hb h
  go_enter Try.func21, Try.ntmps21
  go_wp2_with fail
  obtain ⟨wb, hwb⟩ : ∃ wb, wb = (w.alloc (.cells #[.int .i64 0, .int .i64 0, .slice none 0 0] 43)).alloc (.cells #[.int .i64 0, .int .i64 0, .slice none 0 0] 43) := ⟨_, rfl⟩
  rw [← hwb]
  have hfb : Fr [] w wb := by rw [hwb]; exact ((Fr.refl _ _).alloc _).alloc _
  have HZ1 := Lib.hid (show wb.heap[w.heap.size]? = some (.cells #[.int .i64 0, .int .i64 0, .slice none 0 0] 43) by rw [hwb]; exact heap_alloc2_old w _ _)
  have HZ2 := Lib.hid (show wb.heap[w.heap.size + 1]? = some (.cells #[.int .i64 0, .int .i64 0, .slice none 0 0] 43) by rw [hwb]; exact heap_alloc2_new w _ _)
  clear hwb
  have HFB := Lib.hid hfb
  have HFZ := Lib.hid (show Fr [] w (wb.alloc (.cells #[.int .i64 0, .int .i64 0, .slice none 0 0] 43)).drew from (HFB.out.alloc _).drew)
  have HOZ := Lib.hid (show (wb.alloc (.cells #[.int .i64 0, .int .i64 0, .slice none 0 0] 43)).drew.heap[wb.heap.size]? = some (.cells #[.int .i64 0, .int .i64 0, .slice none 0 0] 43) from heap_alloc_new wb _)
  clear hfb
  have HAT0 := Lib.hid (show ∀ w, Bytes w (some ⟨ab, ao, none⟩) l → Calls Try.prog 35 #[.slice (some ⟨ab, ao, none⟩) 16 c, .int .i64 0, .int .i64 4] w fun e w' => e = .returned (.int .i64 (nm l 0 4)) ∧ w = w' from by intro w hb; have h := at12_any (some ⟨ab, ao, none⟩) c l 4 0 w (by omega) hc hb (by unfold Wd; omega) (by omega) (by have := HL.out; omega); rw [HL.out] at h; exact h)
  have HAT4 := Lib.hid (show ∀ w, Bytes w (some ⟨ab, ao, none⟩) l → Calls Try.prog 35 #[.slice (some ⟨ab, ao, none⟩) 16 c, .int .i64 4, .int .i64 4] w fun e w' => e = .returned (.int .i64 (nm l 4 4)) ∧ w = w' from by intro w hb; have h := at12_any (some ⟨ab, ao, none⟩) c l 4 4 w (by omega) hc hb (by unfold Wd; omega) (by omega) (by have := HL.out; omega); rw [HL.out] at h; exact h)
  obtain ⟨LL, hLL⟩ : ∃ LL, LL = labsOf (l.drop 8) := ⟨_, rfl⟩
  have hlb : ∀ w, Bytes w (some ⟨ab, ao, none⟩) l → Calls Try.prog 42 #[.slice (some ⟨ab, ao + 8, none⟩) 8 (c - 8)] w fun e w' => ∃ la lc, e = .returned (.slice la LL.length lc) ∧ w'.ownsRow w.heap.size 3 1 (.slice la LL.length lc) LL.length (LL.map (Value.int .i64)) ∧ Fr [] w w' := by
    intro w hw
    have hl0 := HL.out
    have hSl : (l.drop 8).length = 8 := by rw [List.length_drop]; omega
    have hsub := hw.sub 8 8 (by omega)
    rw [List.take_of_length_le (by omega)] at hsub
    have h := Labels_any (some ⟨ab, ao + 8, none⟩) (c - 8) (l.drop 8) w (by omega) hsub
    rw [hSl, ← hLL] at h
    refine h.mono ?_
    rintro e w' ⟨v, rfl, h1, h2⟩
    obtain ⟨la, lc, rfl, _⟩ := ints_of_own h1
    exact ⟨la, lc, rfl, h1, h2⟩
  have HLLL := Lib.hid hLL
  have HLN := Lib.hid (show LL.length ≤ 8 by rw [hLL]; have h1 := labsOf_length (l.drop 8); rw [List.length_drop, HL.out] at h1; omega)
  clear hLL
  have HLB := Lib.hid hlb
  clear hlb
  go_cut [5] (fun v wx => ∃ (gx : Nat) (la : Option Addr) (lc : Nat), v = .pointer (some ⟨gx, 0, none⟩) ∧ wx.heap[gx]? = some (.cells #[.int .i64 (nm l 0 4 - 1), .int .i64 (nm l 4 4 - 1), .slice la LL.length lc] 43) ∧ wx.ownsRow wb.heap.size 3 1 (.slice la LL.length lc) LL.length (LL.map (Value.int .i64)) ∧ Fr [] wb wx)
  case first =>
    go_region_held3 (fun _ => True)
      (exact trivial)
      (first
        | (go_at_call 35; (with_reducible refine (HAT0.out _ (by first | exact HB.out.keep HFB.out.drew | exact HB.out.keep HFZ.out)).mono ?_); rintro e wA' ⟨rfl, rfl⟩)
        | (go_at_call 35; (with_reducible refine (HAT4.out _ (by first | exact HB.out.keep HFB.out.drew | exact HB.out.keep HFZ.out)).mono ?_); rintro e wA' ⟨rfl, rfl⟩)
        | (go_at_call 42; (with_reducible refine (HLB.out _ (HB.out.keep HFB.out.drew)).mono ?_); rintro e wA ⟨laA, lcA, rfl, hlA, hA⟩; have hKA := HFB.out.drew.trans hA)
        | (go_at_call 42; (with_reducible refine (HLB.out _ (HB.out.keep HFZ.out)).mono ?_); rintro e wA ⟨laA, lcA, rfl, hlA, hA⟩; have hzA : ZatN wA wb.heap.size := hA.obj HOZ.out (by simp); have hKA := HFZ.out.trans hA))
    all_goals go_wp2_with fail
    all_goals go_meet
    all_goals first
      | (have hzB := hzA; exact ⟨wb.heap.size, laA, lcA, rfl, obj_setCells hzB [.int .i64 (nm l 0 4 - 1), .int .i64 (nm l 4 4 - 1), .slice laA LL.length lcA] rfl, own_ints_set (b := wb.heap.size) (own_base hlA (by simp)) (by intro i hi; have h5 := (own_lt hlA hi).1; simp at h5; omega) [.int .i64 (nm l 0 4 - 1), .int .i64 (nm l 4 4 - 1), .slice laA LL.length lcA], Fr.setCells (by simp) [.int .i64 (nm l 0 4 - 1), .int .i64 (nm l 4 4 - 1), .slice laA LL.length lcA] 0 _ ((((Fr.refl [] wb).alloc _).drew).trans hA)⟩)
      | exact ⟨wA.heap.size, laA, lcA, rfl, obj_setCells (heap_alloc_new wA _) [.int .i64 (nm l 0 4 - 1), .int .i64 (nm l 4 4 - 1), .slice laA LL.length lcA] rfl, own_base (own_fr hlA (Fr.setCells (by simp) [.int .i64 (nm l 0 4 - 1), .int .i64 (nm l 4 4 - 1), .slice laA LL.length lcA] 0 _ ((Fr.refl [] wA).alloc _)) (by simp)) (by simp), (((Fr.refl [] wb).drew).trans hA).trans (Fr.setCells (by simp) [.int .i64 (nm l 0 4 - 1), .int .i64 (nm l 4 4 - 1), .slice laA LL.length lcA] 0 _ ((Fr.refl [] wA).alloc _))⟩
  case rest =>
    obtain ⟨gx, la, lc, rfl, hx, ho, hf⟩ := hcut
    have HFX := Lib.hid (HFB.out.trans hf)
    have HOX := Lib.hid (own_base ho HFB.out.size)
    have HON := Lib.hid (show ∀ i, (Value.slice la LL.length lc).ownBlock = some i → i ≠ w.heap.size from fun i hi => by have h5 := (own_lt ho hi).1; have h6 := (Array.getElem?_eq_some_iff.1 HZ1.out).1; omega)
    have HZ1X := Lib.hid (hf.obj HZ1.out (by simp))
    have HZ2X := Lib.hid (hf.obj HZ2.out (by simp))
    have HXX := Lib.hid hx
    have hIX := ints_own_ ho
    obtain ⟨x0, x1, x2⟩ := three hx
    clear hx ho hf
    have HEQ := Lib.hid (fun hf => noB_eq (l := l) HL.out hf)
    have HNOK := Lib.hid (show noOk l = (gapOk (l.drop 8) && noFine (nm l 0 4 - 1) (nm l 4 4 - 1) (labsOf (l.drop 8))) from rfl)
    rw [← HLLL.out] at HEQ HNOK
    go_wp2_with fail
    refine (refPutNo_any (nm l 0 4 - 1) (nm l 4 4 - 1) la lc LL wc (by have := HLN.out; omega) hIX).mono ?_
    intro e w5 hp
    clear x0 x1 x2 hIX
    rcases hp with ⟨hf, v, rfl, hv⟩ | ⟨hf, v, rfl, hv⟩
    · have hq := HEQ.out hf
      have HV := Lib.hid hv.fr
      have HF5 := Lib.hid (HFX.out.trans hv.fr)
      obtain ⟨g5, cap, rfl, hg5, hlt5, hbv, hfv⟩ := hv.bytes
      have o1 := HV.out.obj HZ1X.out (by simp)
      have O1 := Lib.hid o1
      have q1 := conv_any (some ⟨g5, 0, none⟩) cap _ w5 (fun h => by cases h) hbv
      have q2 := conv_any (some ⟨ab, ao, none⟩) c l w5 (fun h => by cases h) (HB.out.keep HF5.out)
      rw [HL.out] at q2
      clear hv hg5 hlt5 hbv hfv
      generalize noB (nm l 0 4 - 1) (nm l 4 4 - 1) LL = M at hq q1
      cases hB : gapOk (l.drop 8)
      · rw [hB] at hq
        have hq2 : (M != l) = true := by unfold bne; rw [hq]; rfl
        have HER := Lib.hid (errNo_bad HL.out (by rw [HNOK.out, hB]; rfl))
        obtain ⟨x0, x1, x2⟩ := three (HV.out.obj HZ2X.out (by simp))
        obtain ⟨f0, f1, f2⟩ := three_fz o1
        obtain ⟨y0, y1, y2⟩ := three o1
        clear o1 hB hf
        go_wp2
        refine bodyPost_ret (v := .tuple #[zNo, .int .i64 41]) ?_ rfl ⟨_, rfl, GetNo.no HER.out (by decide) (Fr.setCells (by simp) [.int .i64 0, .int .i64 0, .slice none 0 0] 0 _ HF5.out)⟩
        exact results_row Try.results21 _ _ w.heap.size 43 _ _ _ rfl rfl (obj_setCells O1.out [.int .i64 0, .int .i64 0, .slice none 0 0] rfl) Try.underlying43 rfl infoNo
      · rw [hB] at hq
        have hq2 : (M != l) = false := by unfold bne; rw [hq]; rfl
        have HER := Lib.hid (errNo_ok HL.out (by rw [HNOK.out, hB, hf]; rfl))
        obtain ⟨x0, x1, x2⟩ := three (HV.out.obj HXX.out (by simp))
        obtain ⟨f0, f1, f2⟩ := three_fz o1
        obtain ⟨y0, y1, y2⟩ := three o1
        clear o1 hB hf
        go_wp2
        refine bodyPost_ret (v := .tuple #[.agg #[.int .i64 (nm l 0 4 - 1), .int .i64 (nm l 4 4 - 1), .slice la LL.length lc], .int .i64 0]) ?_ rfl ⟨_, rfl, GetNo.yes HER.out HLLL.out rfl (own_ints_set (b := w.heap.size) (own_fr HOX.out HV.out (by simp)) HON.out [.int .i64 (nm l 0 4 - 1), .int .i64 (nm l 4 4 - 1), .slice la LL.length lc]) (Fr.setCells (by simp) [.int .i64 (nm l 0 4 - 1), .int .i64 (nm l 4 4 - 1), .slice la LL.length lc] 0 _ HF5.out)⟩
        exact results_row Try.results21 _ _ w.heap.size 43 _ _ _ rfl rfl (obj_setCells O1.out [.int .i64 (nm l 0 4 - 1), .int .i64 (nm l 4 4 - 1), .slice la LL.length lc] rfl) Try.underlying43 rfl infoNo
    · have HV := Lib.hid hv.fr
      have HF5 := Lib.hid (HFX.out.trans hv.fr)
      have HER := Lib.hid (errNo_bad HL.out (by rw [HNOK.out, hf, Bool.and_false]))
      have o1 := HV.out.obj HZ1X.out (by simp)
      have O1 := Lib.hid o1
      obtain ⟨x0, x1, x2⟩ := three (HV.out.obj HZ2X.out (by simp))
      obtain ⟨f0, f1, f2⟩ := three_fz o1
      obtain ⟨y0, y1, y2⟩ := three o1
      clear hv o1 hf
      go_wp2
      refine bodyPost_ret (v := .tuple #[zNo, .int .i64 41]) ?_ rfl ⟨_, rfl, GetNo.no HER.out (by decide) (Fr.setCells (by simp) [.int .i64 0, .int .i64 0, .slice none 0 0] 0 _ HF5.out)⟩
      exact results_row Try.results21 _ _ w.heap.size 43 _ _ _ rfl rfl (obj_setCells O1.out [.int .i64 0, .int .i64 0, .slice none 0 0] rfl) Try.underlying43 rfl infoNo
theorem refGetNo_all (a : Option Addr) (c : Nat) (l : List UInt8) (w : World) (hc : l.length ≤ c) (hb : Bytes w a l) :
    Calls Try.prog 21 #[.slice a l.length c] w fun e w' => ∃ x, e = .returned x ∧ GetNo w l w' x := by
  by_cases h : l.length = 16
  · exact refGetNo_any a c l w h hc hb
  · exact refGetNo_size a c l w h
end Go.Proofs.Ytbhmfbhfofgfaaa
