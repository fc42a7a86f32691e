/- The walks of the groups of version 2. -/
import Derived.Test.YtmekplamjlnhcaaRecW
namespace Go.Proofs.Ytmekplamjlnhcaa
open Go.RowKit

structure GroupV where
  live : Bool
  ty : Int
  ow : Int
  out : Int
  inn : Int
  lp : Int
  nx : Int
def gFine (g : GroupV) : Bool := inB g.ty 0 200 && (inB g.ow 0 1024 && (([g.out, g.inn, g.lp].all fun n => inB n (-1) 2048) && inB g.nx (-1) 65536))
set_option maxHeartbeats 400000 in
theorem groupFine_any (live : Bool) (ty ow out inn lp nx : Int) (w : World) :
    Calls Try.prog 48 #[.agg #[.bool live, .int .i64 ty, .int .i64 ow, .int .i64 out, .int .i64 inn, .int .i64 lp, .int .i64 nx]] w fun e w' => e = .returned (.bool (gFine ⟨live, ty, ow, out, inn, lp, nx⟩)) ∧ Fr [] w w' := by
  go_enter Try.func48, Try.ntmps48
  go_wp2_with (first
    | (go_at_call 55; refine (within_any _ _ _ _).mono ?_; rintro e w1 ⟨rfl, rfl⟩)
    | (go_at_call 56; refine (pointers_any 2048 _ _ [out, inn, lp] _ (by simp) (Ints.new [out, inn, lp] (by simp) rfl)).mono ?_; rintro e w1 ⟨rfl, rfl⟩)
    | (go_at_call 57; refine (pointer_any _ _ _).mono ?_; rintro e w1 ⟨rfl, rfl⟩))
  all_goals
    go_ret
    refine ⟨ret_bool ?_, ?_⟩
    · simp [gFine, *]
    · repeat (first | exact Fr.refl _ _ | refine Fr.alloc ?_ _)
/-- a group's bytes -/
def gB (g : GroupV) : List UInt8 := by8 2 g.ty.toNat ++ by8 4 g.ow.toNat ++ ptrs [g.out, g.inn, g.lp, g.nx]
theorem gB_length (g : GroupV) : (gB g).length = 22 := by
  unfold gB; rw [List.length_append, List.length_append, by8_length, by8_length, ptrs_length]; rfl
theorem gFine_bd {g : GroupV} (h : gFine g = true) : (0 ≤ g.ty ∧ g.ty < 200) ∧ (0 ≤ g.ow ∧ g.ow < 1024) ∧ (-1 ≤ g.out ∧ g.out < 2048) ∧ (-1 ≤ g.inn ∧ g.inn < 2048) ∧ (-1 ≤ g.lp ∧ g.lp < 2048) ∧ (-1 ≤ g.nx ∧ g.nx < 65536) := by
  simp only [gFine, Bool.and_eq_true, List.all_cons, List.all_nil, inB_iff] at h
  exact ⟨h.1, h.2.1, h.2.2.1.1, h.2.2.1.2.1, h.2.2.1.2.2.1, h.2.2.2⟩
theorem PutGroup_no (live : Bool) (ty ow out inn lp nx : Int) (w : World) (h : gFine ⟨live, ty, ow, out, inn, lp, nx⟩ = false) :
    Calls Try.prog 20 #[.agg #[.bool live, .int .i64 ty, .int .i64 ow, .int .i64 out, .int .i64 inn, .int .i64 lp, .int .i64 nx]] w fun e w' => e = .returned (.tuple #[.slice none 0 0, .int .i64 41]) ∧ Fr [] w w' := by
  have H := Lib.hid h; clear h
  go_enter Try.func20, Try.ntmps20
  go_wp2_with fail
  refine (groupFine_any live ty ow out inn lp nx _).mono ?_
  rintro e w1 ⟨rfl, hf⟩
  rw [H.out]
  go_wp2
  go_ret2
  exact ⟨rfl, ((Fr.refl _ _).alloc _).trans hf⟩
set_option maxHeartbeats 800000 in
theorem PutGroup_yes (live : Bool) (ty ow out inn lp nx : Int) (w : World) (h : gFine ⟨live, ty, ow, out, inn, lp, nx⟩ = true) :
    Calls Try.prog 20 #[.agg #[.bool live, .int .i64 ty, .int .i64 ow, .int .i64 out, .int .i64 inn, .int .i64 lp, .int .i64 nx]] w fun e w' => ∃ v, e = .returned (.tuple #[v, .int .i64 0]) ∧ Fresh w.heap.size w w' v (gB ⟨live, ty, ow, out, inn, lp, nx⟩) := by
  have H := Lib.hid h
  obtain ⟨⟨a1, a2⟩, ⟨b1, b2⟩, ⟨c1, c2⟩, ⟨d1, d2⟩, ⟨e1, e2⟩, ⟨f1, f2⟩⟩ := gFine_bd h
  simp only at a1 a2 b1 b2 c1 c2 d1 d2 e1 e2 f1 f2
  clear h
  have hw1 : IntKind.u64.wrap ty = ty := wrapU_int _ (by omega) (by omega)
  have hw2 : IntKind.u64.wrap ow = ow := wrapU_int _ (by omega) (by omega)
  go_enter Try.func20, Try.ntmps20
  go_wp2_with fail
  obtain ⟨wa, hwa⟩ : ∃ wa, wa = w.alloc (.cells #[.bool live, .int .i64 ty, .int .i64 ow, .int .i64 out, .int .i64 inn, .int .i64 lp, .int .i64 nx] 44) := ⟨_, rfl⟩
  rw [← hwa]
  have hfa : Fr [] w wa := by rw [hwa]; exact (Fr.refl _ _).alloc _
  have hba : wa.heap[w.heap.size]? = some (.cells #[.bool live, .int .i64 ty, .int .i64 ow, .int .i64 out, .int .i64 inn, .int .i64 lp, .int .i64 nx] 44) := by rw [hwa]; exact heap_alloc_new w _
  clear hwa
  refine (groupFine_any live ty ow out inn lp nx _).mono ?_
  rintro e w1 ⟨rfl, hf1⟩
  rw [H.out]
  have HBA := Lib.hid (hf1.obj hba (by simp))
  have HF1 := Lib.hid (hfa.trans hf1)
  clear hba hf1 hfa
  go_wp2_with fail
  refine (NewW w1).mono ?_
  rintro e w2 ⟨rfl, hw⟩
  have HW := Lib.hid hw
  have x1 := cell_of_row w2 _ 1 _ _ _ (hw.fr.obj HBA.out (by simp))
  clear hw
  obtain ⟨p, hp⟩ : ∃ p, p = w1.heap.size := ⟨_, rfl⟩
  rw [← hp] at HW ⊢
  clear hp
  go_wp2_with fail
  refine (NumW w1 w2 p [] 2 ty HW.out (by unfold Wd; omega) (by omega) (by omega) (by simp)).mono ?_
  rintro e w3 ⟨rfl, hw⟩
  have HW3 := Lib.hid hw
  have x2 := cell_of_row w3 _ 2 _ _ _ (hw.fr.obj HBA.out (by simp))
  clear hw
  go_wp2_with fail
  refine (NumW w1 w3 p _ 4 ow HW3.out (by unfold Wd; omega) (by omega) (by omega) (by rw [List.nil_append, by8_length]; omega)).mono ?_
  rintro e w4 ⟨rfl, hw⟩
  have HW4 := Lib.hid hw
  have y3 := cell_of_row w4 _ 3 _ _ _ (hw.fr.obj HBA.out (by simp))
  have y4 := cell_of_row w4 _ 4 _ _ _ (hw.fr.obj HBA.out (by simp))
  have y5 := cell_of_row w4 _ 5 _ _ _ (hw.fr.obj HBA.out (by simp))
  have y6 := cell_of_row w4 _ 6 _ _ _ (hw.fr.obj HBA.out (by simp))
  clear hw
  go_wp2_with fail
  refine (putW w1 w4 _ p _ 4 _ [out, inn, lp, nx] HW4.out ((Fr.refl _ _).alloc _) (Nat.le_refl _) (Ints.new _ rfl rfl) (by simp) (by rw [List.nil_append, List.length_append, by8_length, by8_length]; omega) (by simp; omega)).mono ?_
  rintro e w5 ⟨rfl, hw⟩
  have HW5 := Lib.hid hw
  clear hw
  go_wp2_with fail
  refine (BytesW w1 w5 p _ HW5.out (by rw [List.nil_append, List.length_append, List.length_append, by8_length, by8_length, ptrs_length]; simp)).mono ?_
  rintro e w6 ⟨u, rfl, hg⟩
  have HG := Lib.hid hg
  clear hg
  go_wp2
  go_ret2
  have hg := HG.out
  rw [List.nil_append] at hg
  exact ⟨u, rfl, (hg.fresh (by rw [show by8 2 ty.toNat ++ by8 4 ow.toNat ++ ptrs [out, inn, lp, nx] = gB ⟨live, ty, ow, out, inn, lp, nx⟩ from rfl, gB_length]; omega)).base (HF1.out.trans HW5.out.fr) (by have := (HF1.out.trans HW5.out.fr).size; omega)⟩
end Go.Proofs.Ytmekplamjlnhcaa
