/- The walks of the document's PutGroup and GetGroup. -/
import Derived.Test.YtmekplamjlnhcaaRecE
namespace Go.Proofs.Ytmekplamjlnhcaa
open Go.RowKit
attribute [local go_sem ↓] Go.wp_at_zero Go.wp_at_succ
theorem Fresh.fr {B : Nat} {w w' : World} {v : Value} {l : List UInt8} (h : Fresh B w w' v l) : Fr [] w w' := by
  obtain ⟨_, _, _, _, _, _, hf⟩ := h
  exact hf
theorem fresh_empty {w0 w : World} {g : Nat} (hg : g = w.heap.size) (hf : Fr [] w0 w) : Fresh w0.heap.size w0 (w.alloc (.cells #[] 5)) (.slice (some ⟨g, 0, none⟩) 0 0) [] := by
  subst hg
  exact ⟨_, _, rfl, hf.size, by simp, own_base (own_empty w _) hf.size, hf.alloc _⟩
theorem refnum_z (wz z : Int) (w : World) (hw : isWd wz = true) (h0 : 0 ≤ z) (h1 : z < 18446744073709551616) :
    Calls Try.prog 49 #[.int .i64 wz, .int .u64 z] w fun e w' => ∃ v, e = .returned v ∧ Fresh w.heap.size w w' v (by8 wz.toNat z.toNat) := by
  obtain ⟨wd, rfl, h⟩ := isWd_of wz hw
  exact refnum_int wd z w h h0 h1
theorem held2 {w0 w w' : World} {p q : Addr} {u v : Value} (h : w.cell? p = some u ∧ w.cell? q = some v ∧ Fr [] w0 w) (hf : Fr [] w w') : w'.cell? p = some u ∧ w'.cell? q = some v ∧ Fr [] w0 w' :=
  ⟨hf.cell h.1 (by simp), hf.cell h.2.1 (by simp), h.2.2.trans hf⟩
theorem held2_start {w : World} {p q : Addr} {u v : Value} (h : w.cell? p = some u) (h2 : w.cell? q = some v) : w.drew.cell? p = some u ∧ w.drew.cell? q = some v ∧ Fr [] w w.drew :=
  ⟨h, h2, (Fr.refl _ _).drew⟩
theorem refPutGroup_no (live : Bool) (ty ow out inn lp nx : Int) (w : World) (h : gFine ⟨live, ty, ow, out, inn, lp, nx⟩ = false) :
    Calls Try.prog 21 #[.agg #[.bool live, .int .i64 ty, .int .i64 ow, .int .i64 out, .int .i64 inn, .int .i64 lp, .int .i64 nx]] w fun e w' => ∃ v, e = .returned (.tuple #[v, .int .i64 41]) ∧ Fresh w.heap.size w w' v [] := by
  have H := Lib.hid h; clear h
  go_enter Try.func21, Try.ntmps21
  go_wp2_with (go_at_call 37; refine (In_any _ _ _ _).mono ?_; rintro e w1 ⟨rfl, rfl⟩)
  rotate_left
  · exfalso
    have h6 : (!inB nx (-1) 65536) = false := (by assumption)
    have h7 : inB nx (-1) 65536 = true := by simpa using h6
    have := H.out
    simp [gFine, *] at this
  all_goals
    go_ret2
    exact ⟨_, rfl, fresh_empty (by simp) ((Fr.refl _ _).alloc _)⟩
set_option maxHeartbeats 800000 in
theorem refPutGroup_yes (live : Bool) (ty ow out inn lp nx : Int) (w : World) (h : gFine ⟨live, ty, ow, out, inn, lp, nx⟩ = true) :
    Calls Try.prog 21 #[.agg #[.bool live, .int .i64 ty, .int .i64 ow, .int .i64 out, .int .i64 inn, .int .i64 lp, .int .i64 nx]] w fun e w' => ∃ v, e = .returned (.tuple #[v, .int .i64 0]) ∧ Fresh w.heap.size w w' v (gB ⟨live, ty, ow, out, inn, lp, nx⟩) := by
  obtain ⟨⟨a1, a2⟩, ⟨b1, b2⟩, ⟨c1, c2⟩, ⟨d1, d2⟩, ⟨e1, e2⟩, ⟨f1, f2⟩⟩ := gFine_bd h
  simp only at a1 a2 b1 b2 c1 c2 d1 d2 e1 e2 f1 f2
  clear h
  have k1 := inB_true a1 a2
  have k2 := inB_true b1 b2
  have k3 := inB_true c1 c2
  have k4 := inB_true d1 d2
  have k5 := inB_true e1 e2
  have k6 := inB_true f1 f2
  go_enter Try.func21, Try.ntmps21
  go_wp2_with (go_at_call 37; refine (In_any _ _ _ _).mono ?_; rintro e w1 ⟨rfl, rfl⟩)
  clear k1 k2 k3 k4 k5 k6
  obtain ⟨wa, hwa⟩ : ∃ wa, wa = w.alloc (.cells #[.bool live, .int .i64 ty, .int .i64 ow, .int .i64 out, .int .i64 inn, .int .i64 lp, .int .i64 nx] 44) := ⟨_, rfl⟩
  rw [← hwa]
  have hfa : Fr [] w wa := by rw [hwa]; exact (Fr.refl _ _).alloc _
  have hba : wa.heap[w.heap.size]? = some (.cells #[.bool live, .int .i64 ty, .int .i64 ow, .int .i64 out, .int .i64 inn, .int .i64 lp, .int .i64 nx] 44) := by rw [hwa]; exact heap_alloc_new w _
  clear hwa
  have HBA := Lib.hid hba
  have HFA := Lib.hid hfa
  have x1 := cell_of_row wa _ 1 _ _ _ hba
  have x2 := cell_of_row wa _ 2 _ _ _ hba
  clear hba hfa
  have q1 : IntKind.u64.wrap ty = ty := wrapU_int _ (by omega) (by omega)
  have q2 : IntKind.u64.wrap ow = ow := wrapU_int _ (by omega) (by omega)
  have t2 : isWd 2 = true := rfl
  have t4 : isWd 4 = true := rfl
  have T2 := Lib.hid t2
  have T4 := Lib.hid t4
  have u1 : ty < 18446744073709551616 := by omega
  have u2 : ow < 18446744073709551616 := by omega
  clear t2 t4
  go_region_held3 (fun w' => w'.cell? ⟨w.heap.size, 1, none⟩ = some (.int .i64 ty) ∧ w'.cell? ⟨w.heap.size, 2, none⟩ = some (.int .i64 ow) ∧ Fr [] wa w')
    (first
      | exact held2_start (by assumption) (by assumption)
      | exact held2 (by assumption) hA.fr
      | exact held2 (by assumption) hB.fr
      | exact held2 (held2_start x1 x2) hC.fr)
    (first
      | (go_at_call 49; (with_reducible refine (refnum_z 2 ty _ T2.out a1 u1).mono ?_); rintro e wA ⟨vA, rfl, hA⟩)
      | (go_at_call 49; (with_reducible refine (refnum_z 4 ow _ T4.out b1 u2).mono ?_); rintro e wB ⟨vB, rfl, hB⟩)
      | (go_at_call 38; refine (Joined_fresh wa.drew wA _ vA vB _ _ hA.grow hB (by rw [by8_length, by8_length]; decide)).mono ?_; rintro e wC ⟨vC, rfl, hC⟩))
  clear hA hB
  obtain ⟨wd, hwd⟩ : ∃ wd, wd = wa.drew := ⟨_, rfl⟩
  rw [← hwd] at hC
  have HFD := Lib.hid (show Fr [] w wd by rw [hwd]; exact HFA.out.drew)
  have HBD := Lib.hid (show wd.heap[w.heap.size]? = some (.cells #[.bool live, .int .i64 ty, .int .i64 ow, .int .i64 out, .int .i64 inn, .int .i64 lp, .int .i64 nx] 44) by rw [hwd]; exact HBA.out)
  clear hwd
  have HG3 := Lib.hid (hC)
  have x3 := cell_of_row wC _ 3 _ _ _ (HG3.out.fr.obj HBD.out (by simp))
  clear hC
  go_wp2_with fail
  refine (Ptr_any out wC (by omega) (by omega)).mono ?_
  rintro e wCp ⟨y3, rfl, hp3⟩
  have HP3 := Lib.hid hp3
  clear hp3
  go_wp2_with fail
  refine (Joined_fresh wd wC _ vC y3 _ _ HG3.out HP3.out (by simp only [List.length_append, by8_length]; decide)).mono ?_
  rintro e wD ⟨vD, rfl, hg3⟩
  have HG4 := Lib.hid (hg3)
  have x4 := cell_of_row wD _ 4 _ _ _ (HG4.out.fr.obj HBD.out (by simp))
  clear hg3
  go_wp2_with fail
  refine (Ptr_any inn wD (by omega) (by omega)).mono ?_
  rintro e wDp ⟨y4, rfl, hp4⟩
  have HP4 := Lib.hid hp4
  clear hp4
  go_wp2_with fail
  refine (Joined_fresh wd wD _ vD y4 _ _ HG4.out HP4.out (by simp only [List.length_append, by8_length]; decide)).mono ?_
  rintro e wE ⟨vE, rfl, hg4⟩
  have HG5 := Lib.hid (hg4)
  have x5 := cell_of_row wE _ 5 _ _ _ (HG5.out.fr.obj HBD.out (by simp))
  clear hg4
  go_wp2_with fail
  refine (Ptr_any lp wE (by omega) (by omega)).mono ?_
  rintro e wEp ⟨y5, rfl, hp5⟩
  have HP5 := Lib.hid hp5
  clear hp5
  go_wp2_with fail
  refine (Joined_fresh wd wE _ vE y5 _ _ HG5.out HP5.out (by simp only [List.length_append, by8_length]; decide)).mono ?_
  rintro e wF ⟨vF, rfl, hg5⟩
  have HG6 := Lib.hid (hg5)
  have x6 := cell_of_row wF _ 6 _ _ _ (HG6.out.fr.obj HBD.out (by simp))
  clear hg5
  go_wp2_with fail
  refine (Ptr_any nx wF (by omega) (by omega)).mono ?_
  rintro e wFp ⟨y6, rfl, hp6⟩
  have HP6 := Lib.hid hp6
  clear hp6
  go_wp2_with fail
  refine (Joined_fresh wd wF _ vF y6 _ _ HG6.out HP6.out (by simp only [List.length_append, by8_length]; decide)).mono ?_
  rintro e wG ⟨vG, rfl, hg6⟩
  have HGG := Lib.hid hg6
  clear hg6
  go_wp2
  go_ret2
  refine ⟨vG, rfl, ?_⟩
  have h := HGG.out.fresh.base HFD.out (by have := HFD.out.size; omega)
  have e : by8 (2 : Int).toNat ty.toNat ++ by8 (4 : Int).toNat ow.toNat ++ by8 4 (out + 1).toNat ++ by8 4 (inn + 1).toNat ++ by8 4 (lp + 1).toNat ++ by8 4 (nx + 1).toNat = gB ⟨live, ty, ow, out, inn, lp, nx⟩ := by
    simp [gB, ptrs]
  rw [e] at h
  exact h
end Go.Proofs.Ytmekplamjlnhcaa
