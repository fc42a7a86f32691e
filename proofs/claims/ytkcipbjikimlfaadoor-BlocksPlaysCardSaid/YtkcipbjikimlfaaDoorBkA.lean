/- Blocks: a block's bytes, parse. -/
import Derived.Test.YtkcipbjikimlfaaDoorBkP
import Derived.Test.YtkcipbjikimlfaaDoorRfE
namespace Go.Proofs.YtkcipbjikimlfaaDoor
open Go.RowKit
attribute [local go_sem ↓] Go.wp_at_zero Go.wp_at_succ
theorem fourB {w : World} {b T : Nat} {c0 c1 c2 c3 : Value} (h : w.heap[b]? = some (.cells #[c0, c1, c2, c3] T)) : w.cell? ⟨b, 0, none⟩ = some c0 ∧ w.cell? ⟨b, 1, none⟩ = some c1 ∧ w.cell? ⟨b, 2, none⟩ = some c2 ∧ w.cell? ⟨b, 3, none⟩ = some c3 :=
  ⟨cell_of_row _ _ 0 _ _ _ h, cell_of_row _ _ 1 _ _ _ h, cell_of_row _ _ 2 _ _ _ h, cell_of_row _ _ 3 _ _ _ h⟩
set_option maxRecDepth 100000 in
set_option maxHeartbeats 1600000 in
theorem blkBytes (st us : Nat) (nx : Int) (a : Option Addr) (c : Nat) (d : List UInt8) (w : World) (hst : st ≤ 1) (hus : us ≤ 25) (hnx : -1 ≤ nx) (hnx2 : nx ≤ 65536) (hd : d.length ≤ 25) (hno : a = none → c = 0) (hb : Bytes w a d) :
    Calls Tryd.prog 39 #[.agg #[.int .i64 st, .int .i64 us, .int .i64 nx, .slice a d.length c]] w fun e w' => ∃ v, e = .returned v ∧ Fresh w.heap.size w w' v (blkB st us (nx + 1).toNat d) := by
  have HB := Lib.hid hb
  have HNO := Lib.hid hno
  obtain ⟨wb, hwb⟩ : ∃ wb, wb = w.alloc (.cells #[.int .i64 st, .int .i64 us, .int .i64 nx, .slice a d.length c] 73) := ⟨_, rfl⟩
  have HBX := Lib.hid (show wb.heap[w.heap.size]? = some (.cells #[.int .i64 st, .int .i64 us, .int .i64 nx, .slice a d.length c] 73) by rw [hwb]; exact heap_alloc_new w _)
  have HFB := Lib.hid (show Fr [] w wb by rw [hwb]; exact (Fr.refl _ _).alloc _)
  have HWB := Lib.hid hwb
  clear hb hno hwb
  obtain ⟨k, hk⟩ : ∃ k : Nat, nx + 1 = (k : Int) := ⟨(nx + 1).toNat, by omega⟩
  have HK : Hid ((nx + 1).toNat = k) := Lib.hid (by omega)
  have q1 : IntKind.u64.wrap (st : Int) = (st : Int) := wrapU_int _ (by omega) (by omega)
  have q2 : IntKind.u64.wrap (us : Int) = (us : Int) := wrapU_int _ (by omega) (by omega)
  have q3 : IntKind.i64.wrap (nx + 1) = (k : Int) := by rw [IntWalk.i64_in _ (by omega)]; exact hk
  have q4 : IntKind.u64.wrap (k : Int) = (k : Int) := wrapU_int _ (by omega) (by omega)
  obtain ⟨m, hm⟩ : ∃ m, m = 25 - d.length := ⟨_, rfl⟩
  have q5 : IntKind.i64.wrap (25 - (d.length : Int)) = (m : Int) := by rw [IntWalk.i64_in _ (by omega)]; omega
  have hm25 : m ≤ 25 := by omega
  have hkb : k ≤ 65537 := by omega
  have HM := Lib.hid hm
  rw [HK.out]
  clear hk hm
  go_enter Tryd.func39, Tryd.ntmps39
  go_wp2_with fail
  rw [← HWB.out]
  clear HWB
  refine (NewW wb).mono ?_
  rintro e w1 ⟨rfl, hw1⟩
  generalize wb.heap.size = p at hw1 ⊢
  have HW1 := Lib.hid hw1
  obtain ⟨x0, x1, x2, x3⟩ := fourB (hw1.fr.obj HBX.out (by simp))
  clear hw1
  go_wp2_with fail
  refine (NumW wb w1 p [] 1 st HW1.out (by unfold Wd; omega) (by omega) (by omega) (by simp)).mono ?_
  rintro e w2 ⟨rfl, hw2⟩
  rw [Int.toNat_natCast, List.nil_append] at hw2
  have HW2 := Lib.hid hw2
  obtain ⟨x0, x1, x2, x3⟩ := fourB (hw2.fr.obj HBX.out (by simp))
  clear hw2
  go_wp2_with fail
  refine (NumW wb w2 p _ 1 us HW2.out (by unfold Wd; omega) (by omega) (by omega) (by rw [by8_length]; omega)).mono ?_
  rintro e w3 ⟨rfl, hw3⟩
  rw [Int.toNat_natCast] at hw3
  have HW3 := Lib.hid hw3
  obtain ⟨x0, x1, x2, x3⟩ := fourB (hw3.fr.obj HBX.out (by simp))
  clear hw3
  go_wp2_with fail
  refine (NumW wb w3 p _ 4 k HW3.out (by unfold Wd; omega) (by omega) (by omega) (by rw [List.length_append, by8_length, by8_length]; omega)).mono ?_
  rintro e w4 ⟨rfl, hw4⟩
  rw [Int.toNat_natCast] at hw4
  have HW4 := Lib.hid hw4
  obtain ⟨x0, x1, x2, x3⟩ := fourB (hw4.fr.obj HBX.out (by simp))
  have HB4 := Lib.hid (HB.out.keep (HFB.out.trans hw4.fr))
  clear hw4
  go_wp2_with fail
  refine (RawW wb w4 p _ a c d HW4.out HB4.out HNO.out (by simp only [List.length_append, by8_length]; omega)).mono ?_
  rintro e w5 ⟨rfl, hw5⟩
  have HW5 := Lib.hid hw5
  obtain ⟨x0, x1, x2, x3⟩ := fourB (hw5.fr.obj HBX.out (by simp))
  have hmk := make8 m (by omega) w5
  clear hw5
  go_wp2_with fail
  obtain ⟨w6, hw6⟩ : ∃ w6, w6 = w5.alloc (.cells ((zs m).map B8).toArray 5) := ⟨_, rfl⟩
  rw [← hw6]
  have hw6' : Wtr wb w6 p ((((by8 1 st ++ by8 1 us) ++ by8 4 k) ++ d)) := by rw [hw6]; exact HW5.out.still ((Fr.refl _ _).alloc _)
  have hb6 : Bytes w6 (some ⟨w5.heap.size, 0, none⟩) (zs m) := by
    have h := own_mk w5 m (by omega)
    rw [← hw6] at h
    exact own_bytes (l := zs m) (g := w5.heap.size) (cap := m) (B := w5.heap.size) (e := 5) (w := w6) (by rw [zs_length]; exact h)
  have hraw := RawW wb w6 p _ (some ⟨w5.heap.size, 0, none⟩) m (zs m) hw6' hb6 (fun h => by cases h) (by simp only [List.length_append, by8_length, zs_length]; omega)
  rw [zs_length] at hraw
  have HRAW := Lib.hid hraw
  clear hw6 hw6' hb6 hraw hmk x0 x1 x2 x3
  refine HRAW.out.mono ?_
  rintro e w7 ⟨rfl, hw7⟩
  have HW7 := Lib.hid hw7
  clear hw7
  go_wp2_with fail
  refine (BytesW wb w7 p _ HW7.out (by simp only [List.length_append, by8_length, zs_length]; omega)).mono ?_
  rintro e w8 ⟨u, rfl, hu⟩
  have HU := Lib.hid hu
  clear hu
  go_wp2
  go_ret
  have hl : blkB st us k d = ((((by8 1 st ++ by8 1 us) ++ by8 4 k) ++ d)) ++ zs m := by
    unfold blkB
    rw [HM.out]
    simp only [List.append_assoc]
    rfl
  rw [hl]
  refine ⟨u, rfl, ?_⟩
  have h := HU.out.fresh (by simp only [List.length_append, by8_length, zs_length]; omega)
  exact h.base (HFB.out.trans HW7.out.fr) (HFB.out.trans HW7.out.fr).size
end Go.Proofs.YtkcipbjikimlfaaDoor
