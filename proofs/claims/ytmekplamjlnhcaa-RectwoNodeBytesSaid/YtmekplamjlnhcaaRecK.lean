/- The walks of the document's relationships of version 2. -/
import Derived.Test.YtmekplamjlnhcaaRecJ
namespace Go.Proofs.Ytmekplamjlnhcaa
open Go.RowKit
attribute [local go_sem ↓] Go.wp_at_zero Go.wp_at_succ
theorem nine {w : World} {b T : Nat} {c0 c1 c2 c3 c4 c5 c6 c7 c8 c9 : Value} (h : w.heap[b]? = some (.cells #[c0, c1, c2, c3, c4, c5, c6, c7, c8, c9] T)) :
    w.cell? ⟨b, 0, none⟩ = some c0 ∧ w.cell? ⟨b, 1, none⟩ = some c1 ∧ w.cell? ⟨b, 2, none⟩ = some c2 ∧ w.cell? ⟨b, 3, none⟩ = some c3 ∧ w.cell? ⟨b, 4, none⟩ = some c4 ∧ w.cell? ⟨b, 5, none⟩ = some c5 ∧ w.cell? ⟨b, 6, none⟩ = some c6 ∧ w.cell? ⟨b, 7, none⟩ = some c7 ∧ w.cell? ⟨b, 8, none⟩ = some c8 :=
  ⟨cell_of_row _ _ 0 _ _ _ h, cell_of_row _ _ 1 _ _ _ h, cell_of_row _ _ 2 _ _ _ h, cell_of_row _ _ 3 _ _ _ h, cell_of_row _ _ 4 _ _ _ h, cell_of_row _ _ 5 _ _ _ h, cell_of_row _ _ 6 _ _ _ h, cell_of_row _ _ 7 _ _ _ h, cell_of_row _ _ 8 _ _ _ h⟩
set_option maxHeartbeats 800000 in
theorem refPutRel_no (live : Bool) (fr to fp tp fn tn ty ov : Int) (sa : Option Addr) (sc : Nat) (sl : List UInt8) (w : World) (h : rFine ⟨live, fr, to, fp, tp, fn, tn, ty, ov, sl⟩ = false) :
    Calls Try.prog 14 #[.agg #[.bool live, .int .i64 fr, .int .i64 to, .int .i64 fp, .int .i64 tp, .int .i64 fn, .int .i64 tn, .int .i64 ty, .int .i64 ov, .slice sa sl.length sc]] w fun e w' => ∃ v, e = .returned (.tuple #[v, .int .i64 41]) ∧ Fresh w.heap.size w w' v [] := by
  have H := Lib.hid h; clear h
  by_cases hl : lFine fr to fp fn tp tn = true
  · by_cases ht : inB ty 0 200 = true
    · by_cases ho : inB ov (-1) 65536 = true
      · have hs : ¬ sl.length = 32 := by
          intro hs
          have := H.out
          simp only [lFine, Bool.and_eq_true] at hl
          simp [rFine, ht, ho, hs, hl] at this
        have hb : ((sl.length : Int) != 32) = true := by rw [bne_iff_ne]; omega
        have HS := Lib.hid hs
        clear hs
        go_enter Try.func14, Try.ntmps14
        go_wp2_with (first
          | (go_at_call 37; refine (In_any _ _ _ _).mono ?_; rintro e w1 ⟨rfl, rfl⟩)
          | (go_at_call 36; refine (LinkRight_any live fr to fp tp fn tn _).mono ?_; rintro e w1 ⟨rfl, hf1⟩; have x7 := cell_of_row w1 _ 7 _ _ _ (hf1.obj (heap_alloc_new w _) (by simp)); have x8 := cell_of_row w1 _ 8 _ _ _ (hf1.obj (heap_alloc_new w _) (by simp)); have x9 := cell_of_row w1 _ 9 _ _ _ (hf1.obj (heap_alloc_new w _) (by simp))))
        go_ret2
        exact ⟨_, rfl, fresh_empty rfl (((Fr.refl _ _).alloc _).trans hf1)⟩
      · have ho : inB ov (-1) 65536 = false := by simpa using ho
        go_enter Try.func14, Try.ntmps14
        go_wp2_with (first
          | (go_at_call 37; refine (In_any _ _ _ _).mono ?_; rintro e w1 ⟨rfl, rfl⟩)
          | (go_at_call 36; refine (LinkRight_any live fr to fp tp fn tn _).mono ?_; rintro e w1 ⟨rfl, hf1⟩; have x7 := cell_of_row w1 _ 7 _ _ _ (hf1.obj (heap_alloc_new w _) (by simp)); have x8 := cell_of_row w1 _ 8 _ _ _ (hf1.obj (heap_alloc_new w _) (by simp))))
        go_ret2
        exact ⟨_, rfl, fresh_empty rfl (((Fr.refl _ _).alloc _).trans hf1)⟩
    · have ht : inB ty 0 200 = false := by simpa using ht
      go_enter Try.func14, Try.ntmps14
      go_wp2_with (first
        | (go_at_call 37; refine (In_any _ _ _ _).mono ?_; rintro e w1 ⟨rfl, rfl⟩)
        | (go_at_call 36; refine (LinkRight_any live fr to fp tp fn tn _).mono ?_; rintro e w1 ⟨rfl, hf1⟩; have x7 := cell_of_row w1 _ 7 _ _ _ (hf1.obj (heap_alloc_new w _) (by simp))))
      go_ret2
      exact ⟨_, rfl, fresh_empty rfl (((Fr.refl _ _).alloc _).trans hf1)⟩
  · have hl : lFine fr to fp fn tp tn = false := by simpa using hl
    go_enter Try.func14, Try.ntmps14
    go_wp2_with (go_at_call 36; refine (LinkRight_any live fr to fp tp fn tn _).mono ?_; rintro e w1 ⟨rfl, hf1⟩)
    go_ret2
    exact ⟨_, rfl, fresh_empty rfl (((Fr.refl _ _).alloc _).trans hf1)⟩
set_option maxHeartbeats 1600000 in
theorem refPutRel_yes (live : Bool) (fr to fp tp fn tn ty ov : Int) (sa : Option Addr) (sc : Nat) (sl : List UInt8) (w : World) (h : rFine ⟨live, fr, to, fp, tp, fn, tn, ty, ov, sl⟩ = true) (hb : Bytes w sa sl) :
    Calls Try.prog 14 #[.agg #[.bool live, .int .i64 fr, .int .i64 to, .int .i64 fp, .int .i64 tp, .int .i64 fn, .int .i64 tn, .int .i64 ty, .int .i64 ov, .slice sa sl.length sc]] w fun e w' => ∃ v, e = .returned (.tuple #[v, .int .i64 0]) ∧ Fresh w.heap.size w w' v (rB ⟨live, fr, to, fp, tp, fn, tn, ty, ov, sl⟩) := by
  obtain ⟨⟨a1, a2⟩, ⟨b1, b2⟩, ⟨c1, c2⟩, ⟨d1, d2⟩, ⟨e1, e2⟩, ⟨f1, f2⟩, ⟨g1, g2⟩, ⟨i1, i2⟩, j1⟩ := rFine_bd h
  simp only at a1 a2 b1 b2 c1 c2 d1 d2 e1 e2 f1 f2 g1 g2 i1 i2 j1
  clear h
  have hl : lFine fr to fp fn tp tn = true := by simp [lFine, inB_true a1 a2, inB_true b1 b2, inB_true d1 d2, inB_true e1 e2, inB_true f1 f2, inB_true g1 g2]
  have k3 := inB_true c1 c2
  have k8 := inB_true i1 i2
  have k9 : ((sl.length : Int) != 32) = false := by rw [bne_eq_false_iff_eq]; omega
  have HSL := Lib.hid j1
  have HB := Lib.hid hb
  clear j1 hb
  have hlr := fun w => LinkRight_any live fr to fp tp fn tn w
  rw [hl] at hlr
  have HLR := Lib.hid hlr
  clear hl hlr
  go_enter Try.func14, Try.ntmps14
  go_wp2_with (first
    | (go_at_call 37; refine (In_any _ _ _ _).mono ?_; rintro e w1 ⟨rfl, rfl⟩)
    | (go_at_call 36; refine (HLR.out _).mono ?_; rintro e wa ⟨rfl, hf1⟩; have hba := hf1.obj (heap_alloc_new w _) (by simp); have x7 := cell_of_row wa _ 7 _ _ _ hba; have x8 := cell_of_row wa _ 8 _ _ _ hba; have x9 := cell_of_row wa _ 9 _ _ _ hba))
  clear k3 k8 k9 x7 x8 x9
  have HFA := Lib.hid (((Fr.refl [] w).alloc _).trans hf1)
  have HBA := Lib.hid hba
  clear hf1
  go_region_held3 (fun w' => w'.cell? ⟨w.heap.size, 0, none⟩ = some (.bool live) ∧ w'.cell? ⟨w.heap.size, 1, none⟩ = some (.int .i64 fr) ∧ w'.cell? ⟨w.heap.size, 2, none⟩ = some (.int .i64 to) ∧ w'.cell? ⟨w.heap.size, 3, none⟩ = some (.int .i64 fp) ∧ w'.cell? ⟨w.heap.size, 4, none⟩ = some (.int .i64 tp) ∧ w'.cell? ⟨w.heap.size, 5, none⟩ = some (.int .i64 fn) ∧ w'.cell? ⟨w.heap.size, 6, none⟩ = some (.int .i64 tn) ∧ w'.cell? ⟨w.heap.size, 7, none⟩ = some (.int .i64 ty) ∧ w'.cell? ⟨w.heap.size, 8, none⟩ = some (.int .i64 ov))
    (first
      | assumption
      | exact nine hba
      | exact nine (hA.fr.obj (show wa.drew.heap[w.heap.size]? = some _ from hba) (by simp))
      | exact nine (hB.fr.obj (hA.fr.obj (show wa.drew.heap[w.heap.size]? = some _ from hba) (by simp)) (by simp))
      | exact nine (hC.fr.obj (show wa.drew.heap[w.heap.size]? = some _ from hba) (by simp)))
    (first
      | (go_at_call 39; refine (LinkBytes_any live fr to fp tp fn tn ty _ (by omega) (by omega) (by omega) (by omega) (by omega) (by omega) (by omega)).mono ?_; rintro e wA ⟨vA, rfl, hA⟩)
      | (go_at_call 40; refine (Ptr_any ov _ (by omega) (by omega)).mono ?_; rintro e wB ⟨vB, rfl, hB⟩)
      | (go_at_call 38; refine (Joined_fresh wa.drew wA _ vA vB _ _ hA.grow hB (by rw [lB_length, by8_length]; decide)).mono ?_; rintro e wC ⟨vC, rfl, hC⟩))
  have HBC := Lib.hid (hC.fr.obj (show wa.drew.heap[w.heap.size]? = some _ from hba) (by simp))
  have HFD := Lib.hid (show Fr [] w wa.drew from HFA.out.drew)
  have HC := Lib.hid hC
  have x9 := cell_of_row wC _ 9 _ _ _ HBC.out
  have hbs := HB.out.keep (HFD.out.trans hC.fr)
  have hK : sl = [] ∨ ∀ ad, sa = some ad → vC.ownBlock ≠ some ad.block ∧ ad.block < wC.heap.size := by
    rcases HB.out with h | ⟨b0, off0, rfl, hc⟩
    · exact .inl h
    · refine .inr fun ad e => ?_
      cases e
      have hlt0 := World.block_lt_of_cell? w _ (hc 0 (by have := HSL.out; omega))
      have hs1 := HFD.out.size
      have hs2 := hC.fr.size
      refine ⟨fun e => ?_, ?_⟩
      · have h3 : wa.drew.heap.size ≤ b0 := (own_lt hC.own e).1
        have h4 : b0 < w.heap.size := hlt0
        omega
      · show b0 < _
        have h4 : b0 < w.heap.size := hlt0
        omega
  have H5 := Lib.hid (Joined_grow [] wa.drew wC vC _ sa sc sl hC hbs hK (by rw [HSL.out, List.length_append, lB_length, by8_length]; decide))
  clear hA hB hC hbs hK
  go_wp2_with fail
  refine H5.out.mono ?_
  rintro e wD ⟨vD, rfl, hgD, _⟩
  have HGG := Lib.hid hgD
  clear hgD
  go_wp2
  go_ret2
  refine ⟨vD, rfl, ?_⟩
  have h := HGG.out.fresh.base HFD.out (by have := HFD.out.size; omega)
  have e : lB fr to fp fn tp tn ty ++ by8 4 (ov + 1).toNat ++ sl = rB ⟨live, fr, to, fp, tp, fn, tn, ty, ov, sl⟩ := by simp [lB, rB, ptrs]
  rw [e] at h
  exact h
set_option maxHeartbeats 800000 in
theorem SameRel_any (l1 : Bool) (fr1 to1 fp1 tp1 fn1 tn1 ty1 ov1 : Int) (l2 : Bool) (fr2 to2 fp2 tp2 fn2 tn2 ty2 ov2 : Int) (sa sb : Option Addr) (sc sd : Nat) (sl sm : List UInt8) (w : World) (hna : sa = none → sc = 0) (hnb : sb = none → sd = 0) (ha : Bytes w sa sl) (hb : Bytes w sb sm) (heq : (⟨l1, fr1, to1, fp1, tp1, fn1, tn1, ty1, ov1, sl⟩ : RelV) = ⟨l2, fr2, to2, fp2, tp2, fn2, tn2, ty2, ov2, sm⟩) :
    Calls Try.prog 17 #[.agg #[.bool l1, .int .i64 fr1, .int .i64 to1, .int .i64 fp1, .int .i64 tp1, .int .i64 fn1, .int .i64 tn1, .int .i64 ty1, .int .i64 ov1, .slice sa sl.length sc], .agg #[.bool l2, .int .i64 fr2, .int .i64 to2, .int .i64 fp2, .int .i64 tp2, .int .i64 fn2, .int .i64 tn2, .int .i64 ty2, .int .i64 ov2, .slice sb sm.length sd]] w fun e w' => e = .returned (.bool true) ∧ Fr [] w w' := by
  simp only [RelV.mk.injEq] at heq
  obtain ⟨rfl, rfl, rfl, rfl, rfl, rfl, rfl, rfl, rfl, rfl⟩ := heq
  obtain ⟨wb, hwb⟩ : ∃ wb, wb = (w.alloc (.cells #[.bool l1, .int .i64 fr1, .int .i64 to1, .int .i64 fp1, .int .i64 tp1, .int .i64 fn1, .int .i64 tn1, .int .i64 ty1, .int .i64 ov1, .slice sa sl.length sc] 27)).alloc (.cells #[.bool l1, .int .i64 fr1, .int .i64 to1, .int .i64 fp1, .int .i64 tp1, .int .i64 fn1, .int .i64 tn1, .int .i64 ty1, .int .i64 ov1, .slice sb sl.length sd] 27) := ⟨_, rfl⟩
  have hf : Fr [] w wb := by rw [hwb]; exact ((Fr.refl _ _).alloc _).alloc _
  have q1 := conv_any sa sc sl wb hna (ha.keep hf)
  have q2 := conv_any sb sd sl wb hnb (hb.keep hf)
  rw [hwb] at q1 q2
  have HF := Lib.hid hf
  have HWB := Lib.hid hwb
  clear hwb hf hna hnb ha hb
  go_enter Try.func17, Try.ntmps17
  go_wp2
  go_ret
  exact ⟨rfl, by rw [← HWB.out]; exact HF.out⟩
end Go.Proofs.Ytmekplamjlnhcaa
