/- Record files: RecfileNews. -/
import Derived.Test.YtibhbfmljibeaaaDoorRfU
namespace Go.Proofs.YtibhbfmljibeaaaDoor
open Go.RowKit
attribute [local go_sem ↓] Go.wp_at_zero Go.wp_at_succ
set_option maxRecDepth 100000 in
set_option maxHeartbeats 3200000 in
theorem recfileNews_walk (x y z : Int) (w : World) (hn : Nib w) :
    Calls Tryd.prog 7 #[.agg #[.int .i64 x, .int .i64 y, .int .i64 z]] w fun e w' => e = .returned (.bool true) ∧ Fr [] w w' := by
  have HN := Lib.hid hn
  clear hn
  obtain ⟨wb, hwb⟩ : ∃ wb, wb = w.alloc (.cells #[.int .i64 x, .int .i64 y, .int .i64 z] 39) := ⟨_, rfl⟩
  have HB := Lib.hid (show wb.heap[w.heap.size]? = some (.cells #[.int .i64 x, .int .i64 y, .int .i64 z] 39) by rw [hwb]; exact heap_alloc_new w _)
  have HFB := Lib.hid (show Fr [] w wb by rw [hwb]; exact (Fr.refl _ _).alloc _)
  have HWB := Lib.hid hwb
  clear hwb
  go_enter Tryd.func7, Tryd.ntmps7
  go_wp2_with fail
  rw [← HWB.out]
  refine (speaks09 wb (nib_keep HN.out HFB.out)).mono ?_
  rintro e w1 ⟨rfl, hf1⟩
  have HF1 := Lib.hid (HFB.out.trans hf1)
  have HB1 := Lib.hid (hf1.obj HB.out (by simp))
  obtain ⟨b0, b1, b2⟩ := trio HB1.out
  clear hf1
  by_cases h1 : x < 0 ∨ 255 < x ∨ y < 0 ∨ 255 < y
  · have H1 := Lib.hid h1
    clear h1
    go_wp2_with fail
    refine (New_arg x y z w1 H1.out).mono ?_
    rintro e w' ⟨rfl, rfl⟩
    go_wp2_with fail
    refine (New9_arg x y z w1 H1.out).mono ?_
    rintro e w' ⟨rfl, rfl⟩
    go_wp2
    go_ret
    exact ⟨rfl, HF1.out⟩
  by_cases h2 : z < 2 ∨ 255 < z
  · have H1 := Lib.hid h1
    have H2 := Lib.hid h2
    clear h1 h2
    go_wp2_with fail
    refine (New_size x y z w1 H1.out H2.out).mono ?_
    rintro e w' ⟨rfl, rfl⟩
    go_wp2_with fail
    refine (New9_size x y z w1 H1.out H2.out).mono ?_
    rintro e w' ⟨rfl, rfl⟩
    go_wp2
    go_ret
    exact ⟨rfl, HF1.out⟩
  obtain ⟨kd, rfl⟩ : ∃ k : Nat, x = k := ⟨x.toNat, by omega⟩
  obtain ⟨vr, rfl⟩ : ∃ k : Nat, y = k := ⟨y.toNat, by omega⟩
  obtain ⟨sz, rfl⟩ : ∃ k : Nat, z = k := ⟨z.toNat, by omega⟩
  have HNEW := Lib.hid (New_ok kd vr sz w1 (by omega) (by omega) (by omega) (by omega))
  have HNEW9 : Hid (∀ W, Calls Tryd.prog 24 #[.int .i64 kd, .int .i64 vr, .int .i64 sz] W fun e w' => e = .returned (.tuple #[.pointer (some ⟨W.heap.size, 0, none⟩), .int .i64 0]) ∧ MF W.heap.size [W.heap.size] w' W.heap.size ⟨kd, vr, sz, 0, []⟩ ∧ Fr [] W w') := Lib.hid fun W => New9_ok kd vr sz W (by omega) (by omega) (by omega) (by omega)
  clear h1 h2
  go_wp2_with fail
  refine HNEW.out.mono ?_
  rintro e w2 ⟨rfl, hr2, hf2⟩
  have HR2 := Lib.hid hr2
  have HF2 := Lib.hid (HF1.out.trans hf2)
  have b2' := (trio (hf2.obj HB1.out (by simp)))
  obtain ⟨b0', b1', b2'⟩ := b2'
  clear hr2 hf2 HNEW b0 b1 b2
  generalize w1.heap.size = p at HR2 ⊢
  go_wp2_with fail
  refine (HNEW9.out w2).mono ?_
  rintro e w3 ⟨rfl, hm3, hf3⟩
  have HM3 := Lib.hid hm3
  have HR3 := Lib.hid (HR2.out.keep hf3)
  have HF3 := Lib.hid (HF2.out.trans hf3)
  clear hm3 hf3 b0' b1' b2' HNEW9
  generalize w2.heap.size = q at HM3 ⊢
  generalize ([q] : List Nat) = cs at HM3
  generalize ([p] : List Nat) = bs at HR3
  go_wp2_with fail
  refine (alike_any _ _ bs cs w3 p q _ HR3.out HM3.out).mono ?_
  rintro e w4 ⟨rfl, hf4⟩
  have HM4 := Lib.hid (HM3.out.keep hf4)
  have HR4 := Lib.hid (HR3.out.keep hf4)
  have HF4 := Lib.hid (HF3.out.trans hf4)
  clear hf4
  go_wp2_with fail
  refine (Bytes_F _ bs w4 p _ HR4.out (nib_keep HN.out HF4.out)).mono ?_
  rintro e w5 ⟨v, rfl, hv⟩
  obtain ⟨g5, c5, rfl, -, -, hb5, hf5⟩ := hv.bytes
  have HB5 := Lib.hid hb5
  have HM5 := Lib.hid (HM4.out.keep hf5)
  have HF5 := Lib.hid (HF4.out.trans hf5)
  clear hv hb5 hf5
  go_wp2_with fail
  refine (Bytes9 _ cs w5 q _ HM5.out).mono ?_
  rintro e w6 ⟨v, rfl, hv⟩
  obtain ⟨g6, c6, rfl, -, -, hb6, hf6⟩ := hv.bytes
  have HF6 := Lib.hid (HF5.out.trans hf6)
  have HSM := Lib.hid (same_any (some ⟨g5, 0, none⟩) (some ⟨g6, 0, none⟩) c5 c6 _ _ w6 (fun h => by cases h) (fun h => by cases h) (HB5.out.keep hf6) hb6)
  rw [beq_self_eq_true] at HSM
  clear hv hb6 hf6
  go_wp2_with fail
  refine HSM.out.mono ?_
  rintro e w' ⟨rfl, rfl⟩
  go_wp2
  go_ret
  exact ⟨rfl, HF6.out⟩
end Go.Proofs.YtibhbfmljibeaaaDoor
