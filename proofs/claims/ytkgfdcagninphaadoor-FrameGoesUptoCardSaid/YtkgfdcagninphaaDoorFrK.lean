/- Frames: Same, speaks. -/
import Derived.Test.YtkgfdcagninphaaDoorFrC
import Derived.Test.YtkgfdcagninphaaDoorFrJ
namespace Go.Proofs.YtkgfdcagninphaaDoor
open Go.RowKit
attribute [local go_sem ↓] Go.wp_at_zero Go.wp_at_succ
set_option maxRecDepth 100000 in
theorem Same_any (z y : Int) (a b : Option Addr) (c d : Nat) (l m : List UInt8) (w : World) (hna : a = none → c = 0) (hnb : b = none → d = 0) (ha : Bytes w a l) (hb : Bytes w b m) :
    Calls Tryd.prog 16 #[.agg #[.int .i64 z, .slice a l.length c], .agg #[.int .i64 y, .slice b m.length d]] w fun e w' => e = .returned (.bool (z == y && l == m)) ∧ Fr [] w w' := by
  obtain ⟨w2, hw2⟩ : ∃ w2, w2 = (w.alloc (.cells #[.int .i64 z, .slice a l.length c] 25)).alloc (.cells #[.int .i64 y, .slice b m.length d] 25) := ⟨_, rfl⟩
  have hf : Fr [] w w2 := by rw [hw2]; exact ((Fr.refl _ _).alloc _).alloc _
  have h1 := conv_any a c l w2 hna (ha.keep hf)
  have h2 := conv_any b d m w2 hnb (hb.keep hf)
  have hr1 : w2.heap[w.heap.size]? = some (.cells #[.int .i64 z, .slice a l.length c] 25) := by rw [hw2]; exact ((Fr.refl [] _).alloc _).obj (heap_alloc_new w _) (by simp)
  have hr2 : w2.heap[w.heap.size + 1]? = some (.cells #[.int .i64 y, .slice b m.length d] 25) := by
    rw [hw2]
    have := heap_alloc_new (w.alloc (.cells #[.int .i64 z, .slice a l.length c] 25)) (.cells #[.int .i64 y, .slice b m.length d] 25)
    rwa [World.size_alloc] at this
  obtain ⟨x0, x1⟩ := duo hr1
  obtain ⟨y0, y1⟩ := duo hr2
  have HF := Lib.hid hf
  have HW := Lib.hid hw2
  clear hna hnb ha hb hf hw2 hr1 hr2
  by_cases hzy : z = y
  · subst hzy
    go_enter Tryd.func16, Tryd.ntmps16
    go_upto_region 1 with fail
    rw [← HW.out]
    clear HW
    go_wp2
    go_ret
    exact ⟨by simp, HF.out⟩
  · have hd : (z == y) = false := beq_eq_false_iff_ne.2 hzy
    go_enter Tryd.func16, Tryd.ntmps16
    go_upto_region 1 with fail
    rw [← HW.out]
    clear HW
    go_wp2
    go_ret
    exact ⟨by simp [hzy], HF.out⟩
theorem nib_lt {w : World} (h : Nib w) : 0 < w.heap.size := World.block_lt_of_cell? w _ (h 0 (by decide))
/-- the frame of 'speaks' -/
def spD : List UInt8 := lb [9]
def spB : List UInt8 := fL 2 spD
theorem spB_err : errP 2 spD = 0 := by decide
theorem spB_eq : spB = fB 2 spD := fL_ok spB_err
theorem spB_len : spB.length = 10 := by rw [spB_eq, fB_length]; rfl
theorem spB_run : run spB = ([(2, spD)], 10, 0) := by
  have h := run_packed [(2, spD)] (by intro f hf; simp at hf; subst hf; decide)
  have e : packed [(2, spD)] = spB := by rw [spB_eq]; unfold packed; simp
  rw [e, spB_len] at h
  exact h
theorem spB_spl : spl spB = ([(2, spD)], 0) := by
  unfold spl
  rw [spB_run, spB_len]
  rfl
theorem spB_head : spB.take 6 = lb [2, 0, 0, 0, 1, 9] := by
  rw [spB_eq]
  unfold fB fH
  rw [List.take_append_of_le_length (by decide)]
  decide
theorem I8_2 : I8 2 = 2 := by rw [show (2 : UInt8) = UInt8.ofNat 2 from rfl, I8_of_nat 2 (by decide)]; rfl
theorem own_pos {w : World} {B e size n c : Nat} {a : Option Addr} {xs : List Value} (h : w.ownsRow B e size (.slice a n c) n xs) (hn : 0 < n) : ∃ g, a = some ⟨g, 0, none⟩ ∧ B ≤ g := by
  rcases h.2 with ⟨_, e2⟩ | ⟨g, cap, cur, e1, hb, _⟩
  · omega
  · simp only [Value.slice.injEq] at e1
    exact ⟨g, e1.1, hb⟩
theorem one_FI {X : List FI} {t : UInt8} {d : List UInt8} (h : X.map FI.fr = [(t, d)]) : ∃ a c, X = [⟨t, a, c, d⟩] := by
  match X, h with
  | [x], h =>
    simp [FI.fr] at h
    obtain ⟨rfl, rfl⟩ := h
    exact ⟨x.a, x.c, rfl⟩
set_option maxRecDepth 100000 in
set_option maxHeartbeats 3200000 in
theorem speaks19 (w : World) (hn : Nib w) : Calls Tryd.prog 11 #[] w fun e w' => e = .returned (.bool true) ∧ Fr [] w w' := by
  have HN := Lib.hid hn
  clear hn
  go_enter Tryd.func11, Tryd.ntmps11
  go_wp2_with fail
  obtain ⟨wa, hwa⟩ : ∃ wa, wa = w.alloc (.cells #[.int .u8 9] 5) := ⟨_, rfl⟩
  rw [← hwa]
  have HFA := Lib.hid (show Fr [] w wa by rw [hwa]; exact (Fr.refl _ _).alloc _)
  have HBA := Lib.hid (show Bytes wa (some ⟨w.heap.size, 0, none⟩) spD by rw [hwa]; exact Bytes.lit [9] rfl rfl rfl)
  clear hwa
  refine (Pack_any 2 (some ⟨w.heap.size, 0, none⟩) 1 spD wa (by decide) (fun h => by cases h) HBA.out (nib_keep HN.out HFA.out)).mono ?_
  rintro e w1 ⟨a1, c1, rfl, ho1, hf1⟩
  rw [spB_err, show fL 2 spD = spB from rfl, spB_len]
  rw [show fL 2 spD = spB from rfl] at ho1
  have hb1 := (own_by ho1).1
  have hc1 := (own_by ho1).2
  have hn1 := spl_none ho1
  obtain ⟨g1, hg1, _, _⟩ := spl_addr ho1 (by rw [spB_len]; decide)
  subst hg1
  rw [spB_len] at hc1
  have HB1 := Lib.hid hb1
  have HF1 := Lib.hid (HFA.out.trans hf1)
  have hc6 : (6 : Int) ≤ (c1 : Int) := by omega
  have hc6n : 6 ≤ c1 := by omega
  have HS1 : Hid (Calls Tryd.prog 15 #[.slice (some ⟨g1, 0, none⟩) 6 c1, .slice (some ⟨w1.heap.size, 0, none⟩) 6 6] (w1.alloc (.cells #[.int .u8 2, .int .u8 0, .int .u8 0, .int .u8 0, .int .u8 1, .int .u8 9] 5)) fun e w' => e = .returned (.bool true) ∧ w1.alloc (.cells #[.int .u8 2, .int .u8 0, .int .u8 0, .int .u8 0, .int .u8 1, .int .u8 9] 5) = w') := by
    have hsub := (HB1.out.sub 0 6 (by rw [spB_len]; decide)).keep ((Fr.refl [] w1).alloc (.cells #[.int .u8 2, .int .u8 0, .int .u8 0, .int .u8 0, .int .u8 1, .int .u8 9] 5))
    rw [List.drop_zero, spB_head] at hsub
    have h := same_any (some ⟨g1, 0, none⟩) (some ⟨w1.heap.size, 0, none⟩) c1 6 (lb [2, 0, 0, 0, 1, 9]) (lb [2, 0, 0, 0, 1, 9]) _ (fun h => by cases h) (fun h => by cases h) hsub (Bytes.lit [2, 0, 0, 0, 1, 9] rfl rfl rfl)
    rw [beq_self_eq_true] at h
    exact Lib.hid h
  have HF2 := Lib.hid (HF1.out.alloc (.cells #[.int .u8 2, .int .u8 0, .int .u8 0, .int .u8 0, .int .u8 1, .int .u8 9] 5))
  have HB2 := Lib.hid (HB1.out.keep ((Fr.refl [] w1).alloc (.cells #[.int .u8 2, .int .u8 0, .int .u8 0, .int .u8 0, .int .u8 1, .int .u8 9] 5)))
  clear ho1 hf1 hb1 hn1
  go_wp2_with fail
  refine HS1.out.mono ?_
  rintro e w2 ⟨rfl, hw2⟩
  rw [hw2] at HF2 HB2
  clear HS1 hw2
  go_wp2_with fail
  have hS := Split_any (some ⟨g1, 0, none⟩) c1 spB w2 (by rw [spB_len]; decide) (by rw [spB_len]; exact hc1) (fun h => by cases h) HB2.out (nib_keep HN.out HF2.out)
  rw [spB_len] at hS
  refine hS.mono ?_
  rintro e w3 ⟨v, X, rfl, hX, hXm, hf3⟩
  rw [spB_spl] at hXm ⊢
  obtain ⟨xa, xc, rfl⟩ := one_FI hXm
  obtain ⟨va, vc, rfl⟩ := own_sl hX.row
  have HX := Lib.hid hX
  have HF3 := Lib.hid (HF2.out.trans hf3)
  have HB3 := Lib.hid (HB2.out.keep hf3)
  clear hS hX hXm hf3 HF2 HB2 HF1 HB1
  go_wp2_with fail
  obtain ⟨gv, rfl, _⟩ := own_pos HX.out.row (by simp)
  refine (NewReader_F w3).mono ?_
  rintro e w4 ⟨p, rfl, hr4, hp, hp4, hf4⟩
  have hxc := (OwnO.of (HX.out.keep hf4).row).cell 0 (by rw [fiCells_cons]; simp)
  have x0 : w4.cell? ⟨gv, 0, none⟩ = some (.int .i64 2) := by rw [← I8_2]; exact hxc.1
  have HF4 := Lib.hid (HF3.out.trans hf4)
  have HB4 := Lib.hid (HB3.out.keep hf4)
  have HR4 := Lib.hid hr4
  have HP := Lib.hid hp
  have hnl : 0 < w3.heap.size := nib_lt (nib_keep HN.out HF3.out)
  clear hxc hr4 hf4 HB3 hp
  go_wp2_with fail
  have hF := Feed_ok w3.heap.size p (.slice none 0 0) (.slice none 0 0) [] spB [] (some ⟨g1, 0, none⟩) c1 w4 HR4.out HB4.out (fun h => by cases h) (nib_keep HN.out HF4.out) (by have := HP.out; omega) hnl (by rw [spB_len]; decide) (by rw [spB_len]; decide) (by have := HP.out; omega)
  rw [spB_len] at hF
  refine hF.mono ?_
  rintro e w5 ⟨u', v', X1, rfl, hr5, hX1, hf5, -, -, -⟩
  rw [List.nil_append, spB_run] at hX1 hr5 ⊢
  obtain ⟨ya, yc, rfl⟩ := one_FI hX1
  rw [List.nil_append] at hr5
  have HR5 := Lib.hid hr5
  have hnw3 : w.heap.size ≤ w3.heap.size := HF3.out.size
  have HF5 := Lib.hid (HF4.out.next hf5 (by intro i hi hlt; simp [Value.ownBlock] at hi; have := HP.out; omega))
  clear hF hr5 hX1 hf5 x0 HB4 hnl
  go_wp2_with fail
  refine (Next_some _ _ _ _ _ _ _ _ w5 HR5.out).mono ?_
  rintro e w6 ⟨rfl, v6, hr6, -, ho6, hf6⟩
  simp only [FI.v] at ho6
  simp only [FI.v, I8_2, show spD.length = 1 from rfl]
  have HF6 := Lib.hid (HF5.out.next hf6 (by intro i hi hlt; simp at hi; have := HP.out; omega))
  have HO6 := Lib.hid ho6
  have HS6 : Hid (Calls Tryd.prog 15 #[.slice ya 1 yc, .slice (some ⟨w6.heap.size + 1, 0, none⟩) 1 1] ((w6.alloc (.cells #[.int .i64 2, .slice ya 1 yc] 25)).alloc (.cells #[.int .u8 9] 5)) fun e w' => e = .returned (.bool true) ∧ (w6.alloc (.cells #[.int .i64 2, .slice ya 1 yc] 25)).alloc (.cells #[.int .u8 9] 5) = w') := by
    have hb := (own_by ho6).1.keep (((Fr.refl [] w6).alloc (.cells #[.int .i64 2, .slice ya 1 yc] 25)).alloc (.cells #[.int .u8 9] 5))
    have h := same_any ya (some ⟨w6.heap.size + 1, 0, none⟩) yc 1 spD spD _ (spl_none ho6) (fun h => by cases h) hb (Bytes.lit [9] (by simp) rfl rfl)
    rw [beq_self_eq_true] at h
    exact Lib.hid h
  clear hr6 ho6 hf6
  go_wp2_with fail
  refine HS6.out.mono ?_
  rintro e w7 ⟨rfl, rfl⟩
  go_wp2
  go_ret
  exact ⟨rfl, (HF6.out.alloc _).alloc _⟩
end Go.Proofs.YtkgfdcagninphaaDoor
