/- What the law of version 1's records asks ahead of all: bytes that the document fixes. -/
import Derived.Test.YtbhmfbhfofgfaaaOneF
import Derived.Test.YtbhmfbhfofgfaaaOneH
import Derived.Test.YtbhmfbhfofgfaaaOneI
import Derived.Test.YtbhmfbhfofgfaaaRecO
namespace Go.Proofs.Ytbhmfbhfofgfaaa
open Go.RowKit
attribute [local go_sem ↓] Go.wp_at_zero Go.wp_at_succ
def sq1 : List UInt8 := lb [0, 0, 0, 1, 0, 0, 0, 0, 1, 5, 0, 0, 0, 0, 0, 0]
def sq2 : List UInt8 := lb [0, 2, 2, 0, 0, 0, 0, 0, 0, 1, 2, 0, 0, 0, 0, 0, 0, 0, 7]
def sq3 : List UInt8 := lb [0, 0, 0, 3, 0, 0, 0, 4, 0, 5, 0, 0, 0, 0, 0, 0, 0, 2, 0, 0, 0, 0, 0, 0, 0, 0, 0, 0, 0, 0]
theorem sq1_bad : (okN (okN false 0 (-1) 2048) (-1) (-1) 65536 || !labFine [0, 4]) = false := by decide +kernel
theorem sq1_U : ptrU 0 ++ ptrU (-1) ++ labU [0, 4] 8 = sq1 := by decide +kernel
theorem sq2_bad : pBad ⟨2, 2, 258, -1, -1, 6⟩ = false := by decide +kernel
theorem sq2_U : pU ⟨2, 2, 258, -1, -1, 6⟩ = sq2 := by decide +kernel
theorem sq3_err : errRo sq3 = 0 := by decide +kernel
theorem sq3_v : (oDec sq3).live = true ∧ (oDec sq3).fr = 3 ∧ (oDec sq3).tu = 4 ∧ (oDec sq3).fp = -1 ∧ (oDec sq3).tp = -1 ∧ (oDec sq3).fn = 1 ∧ (oDec sq3).tn = -1 ∧ (oDec sq3).ty = 5 ∧ (oDec sq3).pr = -1 := by decide +kernel
theorem sq3_cells : (oDec sq3).cells.toArray = #[.bool true, .int .i64 3, .int .i64 4, .int .i64 (-1), .int .i64 (-1), .int .i64 1, .int .i64 (-1), .int .i64 5, .int .i64 (-1)] := by
  obtain ⟨a, b, c, d, e, f, g, h, i⟩ := sq3_v
  unfold OneV.cells
  rw [a, b, c, d, e, f, g, h, i]
set_option maxRecDepth 100000 in
set_option maxHeartbeats 1600000 in
theorem speaks12 (w : World) : Calls Try.prog 10 #[] w fun e w' => e = .returned (.bool true) ∧ Fr [] w w' := by
  go_enter Try.func10, Try.ntmps10
  go_wp2_with fail
  obtain ⟨w0, hw0⟩ : ∃ w0, w0 = w.alloc (.cells #[.int .i64 0, .int .i64 4] 3) := ⟨_, rfl⟩
  rw [← hw0]
  have HF0 := Lib.hid (show Fr [] w w0 by rw [hw0]; exact (Fr.refl _ _).alloc _)
  have hI : Ints w0 (some ⟨w.heap.size, 0, none⟩) [0, 4] := by rw [hw0]; exact Ints.new [0, 4] (by simp) rfl
  clear hw0
  refine (PutNo_any w0 0 (-1) (some ⟨w.heap.size, 0, none⟩) 2 [0, 4] hI (by simp)).mono ?_
  rintro e w1 hp
  rw [sq1_bad, sq1_U] at hp
  rcases hp.get with ⟨h, _⟩ | ⟨_, v, rfl, hv⟩
  · cases h
  obtain ⟨g, cap, rfl, hg, hlt, hbv, hfv⟩ := hv.bytes
  have HB1 := Lib.hid hbv
  have HF1 := Lib.hid (HF0.out.trans hfv)
  clear hp hv hbv hfv hg hlt hI
  have l16 : sq1.length = 16 := rfl
  rw [l16]
  go_wp2_with fail
  have h2 := same_any (some ⟨g, 0, none⟩) (some ⟨w1.heap.size, 0, none⟩) cap 16 sq1 sq1 (w1.alloc (.cells #[.int .u8 0, .int .u8 0, .int .u8 0, .int .u8 1, .int .u8 0, .int .u8 0, .int .u8 0, .int .u8 0, .int .u8 1, .int .u8 5, .int .u8 0, .int .u8 0, .int .u8 0, .int .u8 0, .int .u8 0, .int .u8 0] 5)) (fun h => by cases h) (fun h => by cases h) (HB1.out.keep ((Fr.refl _ _).alloc _)) (Bytes.lit [0, 0, 0, 1, 0, 0, 0, 0, 1, 5, 0, 0, 0, 0, 0, 0] rfl rfl rfl)
  rw [l16, beq_self_eq_true] at h2
  refine h2.mono ?_
  clear h2
  rintro e w2 ⟨rfl, hw2⟩
  have HF2 := Lib.hid (show Fr [] w w2 by rw [← hw2]; exact HF1.out.alloc _)
  clear hw2 HB1 l16
  go_wp2_with fail
  refine (PutPo_any w2 2 2 258 (-1) (-1) 6).mono ?_
  rintro e w3 hp
  rw [sq2_bad, sq2_U] at hp
  rcases hp.get with ⟨h, _⟩ | ⟨_, v, rfl, hv⟩
  · cases h
  obtain ⟨g2, cap2, rfl, hg, hlt, hbv, hfv⟩ := hv.bytes
  have HB3 := Lib.hid hbv
  have HF3 := Lib.hid (HF2.out.trans hfv)
  clear hp hv hbv hfv hg hlt
  have l19 : sq2.length = 19 := rfl
  rw [l19]
  go_wp2_with fail
  have h2 := same_any (some ⟨g2, 0, none⟩) (some ⟨w3.heap.size, 0, none⟩) cap2 19 sq2 sq2 (w3.alloc (.cells #[.int .u8 0, .int .u8 2, .int .u8 2, .int .u8 0, .int .u8 0, .int .u8 0, .int .u8 0, .int .u8 0, .int .u8 0, .int .u8 1, .int .u8 2, .int .u8 0, .int .u8 0, .int .u8 0, .int .u8 0, .int .u8 0, .int .u8 0, .int .u8 0, .int .u8 7] 5)) (fun h => by cases h) (fun h => by cases h) (HB3.out.keep ((Fr.refl _ _).alloc _)) (Bytes.lit [0, 2, 2, 0, 0, 0, 0, 0, 0, 1, 2, 0, 0, 0, 0, 0, 0, 0, 7] rfl rfl rfl)
  rw [l19, beq_self_eq_true] at h2
  refine h2.mono ?_
  clear h2
  rintro e w4 ⟨rfl, hw4⟩
  have HF4 := Lib.hid (show Fr [] w w4 by rw [← hw4]; exact HF3.out.alloc _)
  clear hw4 HB3 l19
  go_wp2_with fail
  have l30 : sq3.length = 30 := rfl
  have h5 := GetRo_any (w4.alloc (.cells #[.int .u8 0, .int .u8 0, .int .u8 0, .int .u8 3, .int .u8 0, .int .u8 0, .int .u8 0, .int .u8 4, .int .u8 0, .int .u8 5, .int .u8 0, .int .u8 0, .int .u8 0, .int .u8 0, .int .u8 0, .int .u8 0, .int .u8 0, .int .u8 2, .int .u8 0, .int .u8 0, .int .u8 0, .int .u8 0, .int .u8 0, .int .u8 0, .int .u8 0, .int .u8 0, .int .u8 0, .int .u8 0, .int .u8 0, .int .u8 0] 5)) (some ⟨w4.heap.size, 0, none⟩) 30 sq3 (Bytes.lit [0, 0, 0, 3, 0, 0, 0, 4, 0, 5, 0, 0, 0, 0, 0, 0, 0, 2, 0, 0, 0, 0, 0, 0, 0, 0, 0, 0, 0, 0] rfl rfl rfl)
  rw [l30] at h5
  refine h5.mono ?_
  clear h5 l30
  rintro e w5 ⟨x, rfl, v, rfl, hf, hv⟩
  rw [if_pos sq3_err, sq3_cells] at hv
  subst hv
  rw [sq3_err]
  have HF5 := Lib.hid ((HF4.out.alloc _).trans hf)
  clear hf
  go_wp2
  go_ret
  exact ⟨rfl, HF5.out.alloc _⟩
end Go.Proofs.Ytbhmfbhfofgfaaa
