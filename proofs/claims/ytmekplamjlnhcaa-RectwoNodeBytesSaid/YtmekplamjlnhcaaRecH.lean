/- The walks of the relationships of version 2: written. -/
import Derived.Test.YtmekplamjlnhcaaRecG
namespace Go.Proofs.Ytmekplamjlnhcaa
open Go.RowKit
attribute [local go_sem ↓] Go.wp_at_zero Go.wp_at_succ
structure RelV where
  live : Bool
  fr : Int
  to : Int
  fp : Int
  tp : Int
  fn : Int
  tn : Int
  ty : Int
  ov : Int
  sl : List UInt8
def rFine (r : RelV) : Bool := inB r.fr 0 1024 && (inB r.to 0 1024 && (inB r.ty 0 200 && (([r.fp, r.fn, r.tp, r.tn].all fun n => inB n (-1) 2048) && (inB r.ov (-1) 65536 && decide (r.sl.length = 32)))))
/-- a relationship's bytes -/
def rB (r : RelV) : List UInt8 := by8 4 r.fr.toNat ++ by8 4 r.to.toNat ++ by8 2 r.ty.toNat ++ ptrs [r.fp, r.fn, r.tp, r.tn, r.ov] ++ r.sl
theorem rB_length (r : RelV) : (rB r).length = 30 + r.sl.length := by
  unfold rB; simp only [List.length_append, by8_length, ptrs_length]; simp
theorem rFine_bd {r : RelV} (h : rFine r = true) : (0 ≤ r.fr ∧ r.fr < 1024) ∧ (0 ≤ r.to ∧ r.to < 1024) ∧ (0 ≤ r.ty ∧ r.ty < 200) ∧ (-1 ≤ r.fp ∧ r.fp < 2048) ∧ (-1 ≤ r.fn ∧ r.fn < 2048) ∧ (-1 ≤ r.tp ∧ r.tp < 2048) ∧ (-1 ≤ r.tn ∧ r.tn < 2048) ∧ (-1 ≤ r.ov ∧ r.ov < 65536) ∧ r.sl.length = 32 := by
  simp only [rFine, Bool.and_eq_true, List.all_cons, List.all_nil, inB_iff, decide_eq_true_eq] at h
  exact ⟨h.1, h.2.1, h.2.2.1, h.2.2.2.1.1, h.2.2.2.1.2.1, h.2.2.2.1.2.2.1, h.2.2.2.1.2.2.2.1, h.2.2.2.2.1, h.2.2.2.2.2⟩
theorem len_dec (n k : Nat) : decide (n = k) = ((n : Int) == (k : Int)) := by
  by_cases h : n = k
  · subst h; simp
  · rw [decide_eq_false h, beq_eq_false_iff_ne.2 (by omega)]
set_option maxHeartbeats 800000 in
theorem relFine_any (live : Bool) (fr to fp tp fn tn ty ov : Int) (sa : Option Addr) (sc : Nat) (sl : List UInt8) (w : World) :
    Calls Try.prog 30 #[.agg #[.bool live, .int .i64 fr, .int .i64 to, .int .i64 fp, .int .i64 tp, .int .i64 fn, .int .i64 tn, .int .i64 ty, .int .i64 ov, .slice sa sl.length sc]] w fun e w' => e = .returned (.bool (rFine ⟨live, fr, to, fp, tp, fn, tn, ty, ov, sl⟩)) ∧ Fr [] w w' := by
  have HD := Lib.hid (len_dec sl.length 32)
  go_enter Try.func30, Try.ntmps30
  go_wp2_with (first
    | (go_at_call 55; refine (within_any _ _ _ _).mono ?_; rintro e w1 ⟨rfl, rfl⟩)
    | (go_at_call 56; refine (pointers_any 2048 _ _ [fp, fn, tp, tn] _ (by simp) (Ints.new [fp, fn, tp, tn] (by simp) rfl)).mono ?_; rintro e w1 ⟨rfl, rfl⟩)
    | (go_at_call 57; refine (pointer_any _ _ _).mono ?_; rintro e w1 ⟨rfl, rfl⟩))
  all_goals
    go_ret
    refine ⟨ret_bool ?_, ?_⟩
    · have hd := HD.out
      simp [rFine, *] <;> simpa using hd.symm
    · repeat (first | exact Fr.refl _ _ | refine Fr.alloc ?_ _)
theorem PutRel_no (live : Bool) (fr to fp tp fn tn ty ov : Int) (sa : Option Addr) (sc : Nat) (sl : List UInt8) (w : World) (h : rFine ⟨live, fr, to, fp, tp, fn, tn, ty, ov, sl⟩ = false) :
    Calls Try.prog 12 #[.agg #[.bool live, .int .i64 fr, .int .i64 to, .int .i64 fp, .int .i64 tp, .int .i64 fn, .int .i64 tn, .int .i64 ty, .int .i64 ov, .slice sa sl.length sc]] w fun e w' => e = .returned (.tuple #[.slice none 0 0, .int .i64 41]) ∧ Fr [] w w' := by
  have H := Lib.hid h; clear h
  go_enter Try.func12, Try.ntmps12
  go_wp2_with fail
  refine (relFine_any live fr to fp tp fn tn ty ov sa sc sl _).mono ?_
  rintro e w1 ⟨rfl, hf⟩
  rw [H.out]
  go_wp2
  go_ret2
  exact ⟨rfl, ((Fr.refl _ _).alloc _).trans hf⟩
set_option maxHeartbeats 1600000 in
theorem PutRel_yes (live : Bool) (fr to fp tp fn tn ty ov : Int) (sa : Option Addr) (sc : Nat) (sl : List UInt8) (w : World) (h : rFine ⟨live, fr, to, fp, tp, fn, tn, ty, ov, sl⟩ = true) (hno : sa = none → sc = 0) (hb : Bytes w sa sl) :
    Calls Try.prog 12 #[.agg #[.bool live, .int .i64 fr, .int .i64 to, .int .i64 fp, .int .i64 tp, .int .i64 fn, .int .i64 tn, .int .i64 ty, .int .i64 ov, .slice sa sl.length sc]] w fun e w' => ∃ v, e = .returned (.tuple #[v, .int .i64 0]) ∧ Fresh w.heap.size w w' v (rB ⟨live, fr, to, fp, tp, fn, tn, ty, ov, sl⟩) := by
  have H := Lib.hid h
  obtain ⟨⟨a1, a2⟩, ⟨b1, b2⟩, ⟨c1, c2⟩, ⟨d1, d2⟩, ⟨e1, e2⟩, ⟨f1, f2⟩, ⟨g1, g2⟩, ⟨i1, i2⟩, j1⟩ := rFine_bd h
  simp only at a1 a2 b1 b2 c1 c2 d1 d2 e1 e2 f1 f2 g1 g2 i1 i2 j1
  have HSL := Lib.hid j1
  have HNO := Lib.hid hno
  have HB := Lib.hid hb
  clear h j1 hno hb
  have q1 : IntKind.u64.wrap fr = fr := wrapU_int _ (by omega) (by omega)
  have q2 : IntKind.u64.wrap to = to := wrapU_int _ (by omega) (by omega)
  have q3 : IntKind.u64.wrap ty = ty := wrapU_int _ (by omega) (by omega)
  go_enter Try.func12, Try.ntmps12
  go_wp2_with fail
  obtain ⟨wa, hwa⟩ : ∃ wa, wa = w.alloc (.cells #[.bool live, .int .i64 fr, .int .i64 to, .int .i64 fp, .int .i64 tp, .int .i64 fn, .int .i64 tn, .int .i64 ty, .int .i64 ov, .slice sa sl.length sc] 27) := ⟨_, rfl⟩
  rw [← hwa]
  have hfa : Fr [] w wa := by rw [hwa]; exact (Fr.refl _ _).alloc _
  have hba : wa.heap[w.heap.size]? = some (.cells #[.bool live, .int .i64 fr, .int .i64 to, .int .i64 fp, .int .i64 tp, .int .i64 fn, .int .i64 tn, .int .i64 ty, .int .i64 ov, .slice sa sl.length sc] 27) := by rw [hwa]; exact heap_alloc_new w _
  clear hwa
  refine (relFine_any live fr to fp tp fn tn ty ov sa sc sl _).mono ?_
  rintro e w1 ⟨rfl, hf1⟩
  rw [H.out]
  have HBA := Lib.hid (hf1.obj hba (by simp))
  have HF1 := Lib.hid (hfa.trans hf1)
  clear hba hf1 hfa
  go_wp2_with fail
  refine (NewW w1).mono ?_
  rintro e w2 ⟨rfl, hw⟩
  have HW := Lib.hid hw
  have x1 := cell_of_row w2 _ 1 _ _ _ (hw.fr.obj HBA.out (by simp))
  clear hw
  obtain ⟨p, hp⟩ : ∃ p, p = w1.heap.size := ⟨_, rfl⟩
  rw [← hp] at HW ⊢
  clear hp
  go_wp2_with fail
  refine (NumW w1 w2 p [] 4 fr HW.out (by unfold Wd; omega) (by omega) (by omega) (by simp)).mono ?_
  rintro e w3 ⟨rfl, hw⟩
  have HW3 := Lib.hid hw
  have x2 := cell_of_row w3 _ 2 _ _ _ (hw.fr.obj HBA.out (by simp))
  clear hw
  go_wp2_with fail
  refine (NumW w1 w3 p _ 4 to HW3.out (by unfold Wd; omega) (by omega) (by omega) (by rw [List.nil_append, by8_length]; omega)).mono ?_
  rintro e w4 ⟨rfl, hw⟩
  have HW4 := Lib.hid hw
  have x7 := cell_of_row w4 _ 7 _ _ _ (hw.fr.obj HBA.out (by simp))
  clear hw
  go_wp2_with fail
  refine (NumW w1 w4 p _ 2 ty HW4.out (by unfold Wd; omega) (by omega) (by omega) (by simp only [List.nil_append, List.length_append, by8_length]; omega)).mono ?_
  rintro e w5 ⟨rfl, hw⟩
  have HW5 := Lib.hid hw
  have y3 := cell_of_row w5 _ 3 _ _ _ (hw.fr.obj HBA.out (by simp))
  have y4 := cell_of_row w5 _ 4 _ _ _ (hw.fr.obj HBA.out (by simp))
  have y5 := cell_of_row w5 _ 5 _ _ _ (hw.fr.obj HBA.out (by simp))
  have y6 := cell_of_row w5 _ 6 _ _ _ (hw.fr.obj HBA.out (by simp))
  have y8 := cell_of_row w5 _ 8 _ _ _ (hw.fr.obj HBA.out (by simp))
  clear hw
  go_wp2_with fail
  refine (putW w1 w5 _ p _ 5 _ [fp, fn, tp, tn, ov] HW5.out ((Fr.refl _ _).alloc _) (Nat.le_refl _) (Ints.new _ rfl rfl) (by simp) (by simp only [List.nil_append, List.length_append, by8_length]; omega) (by simp; omega)).mono ?_
  rintro e w6 ⟨rfl, hw⟩
  have HW6 := Lib.hid hw
  have y9 := cell_of_row w6 _ 9 _ _ _ (hw.fr.obj HBA.out (by simp))
  have hbs := HB.out.keep (HF1.out.trans hw.fr)
  clear hw
  go_wp2_with fail
  refine (RawW w1 w6 p _ sa sc sl HW6.out hbs HNO.out (by have := HSL.out; simp only [List.nil_append, List.length_append, by8_length, ptrs_length]; simp; omega)).mono ?_
  rintro e w7 ⟨rfl, hw⟩
  have HW7 := Lib.hid hw
  clear hw hbs
  go_wp2_with fail
  have HLE := Lib.hid (show ([] ++ by8 4 fr.toNat ++ by8 4 to.toNat ++ by8 2 ty.toNat ++ ptrs [fp, fn, tp, tn, ov] ++ sl).length = 62 by have := HSL.out; simp only [List.nil_append, List.length_append, by8_length, ptrs_length]; simp; omega)
  refine (BytesW w1 w7 p _ HW7.out (by rw [HLE.out]; omega)).mono ?_
  rintro e w8 ⟨u, rfl, hg⟩
  have HG := Lib.hid hg
  clear hg
  go_wp2
  go_ret2
  have hg := HG.out.fresh (by rw [HLE.out]; omega)
  rw [List.nil_append] at hg
  exact ⟨u, rfl, hg.base (HF1.out.trans HW7.out.fr) (by have := (HF1.out.trans HW7.out.fr).size; omega)⟩
end Go.Proofs.Ytmekplamjlnhcaa
