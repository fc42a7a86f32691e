/- The document's relationships of version 1: the plain law, PutRel and GetRel. -/
import Derived.Test.YtbhmfbhfofgfaaaOneD
namespace Go.Proofs.Ytbhmfbhfofgfaaa
open Go.RowKit
attribute [local go_sem ↓] Go.wp_at_zero Go.wp_at_succ
def oFine (r : OneV) : Bool := lFine r.fr r.tu r.fp r.fn r.tp r.tn && (inB r.ty 0 200 && inB r.pr (-1) 65536)
def oB (r : OneV) : List UInt8 := lB r.fr r.tu r.fp r.fn r.tp r.tn r.ty ++ by8 4 (r.pr + 1).toNat
theorem oB_length (r : OneV) : (oB r).length = 30 := by unfold oB; rw [List.length_append, lB_length, by8_length]
theorem oBad_fine (r : OneV) : oBad r = !oFine r := by
  unfold oBad oFine lFine okPs okN
  simp only [List.foldl_cons, List.foldl_nil, Bool.not_and, Bool.false_or]
  ac_rfl
theorem oFine_bd {r : OneV} (h : oFine r = true) : (0 ≤ r.fr ∧ r.fr < 1024) ∧ (0 ≤ r.tu ∧ r.tu < 1024) ∧ (-1 ≤ r.fp ∧ r.fp < 2048) ∧ (-1 ≤ r.fn ∧ r.fn < 2048) ∧ (-1 ≤ r.tp ∧ r.tp < 2048) ∧ (-1 ≤ r.tn ∧ r.tn < 2048) ∧ (0 ≤ r.ty ∧ r.ty < 200) ∧ (-1 ≤ r.pr ∧ r.pr < 65536) := by
  unfold oFine lFine at h
  simp only [Bool.and_eq_true, inB_iff] at h
  omega
theorem ptrU_in {z : Int} (h : -1 ≤ z ∧ z < 65536) : ptrU z = by8 4 (z + 1).toNat := by unfold ptrU; rw [numU_in (by omega) (by omega)]
theorem oU_oB {r : OneV} (h : oFine r = true) : oU r = oB r := by
  obtain ⟨a, b, c, d, e, f, g, i⟩ := oFine_bd h
  unfold oU oB lB ptrs ptrsU
  rw [numU_in (by omega) (by omega), numU_in (by omega) (by omega), numU_in (by omega) (by omega), ptrU_in (by omega)]
  simp only [List.flatMap_cons, List.flatMap_nil, ptrU_in (show -1 ≤ r.fp ∧ r.fp < 65536 by omega), ptrU_in (show -1 ≤ r.fn ∧ r.fn < 65536 by omega), ptrU_in (show -1 ≤ r.tp ∧ r.tp < 65536 by omega), ptrU_in (show -1 ≤ r.tn ∧ r.tn < 65536 by omega), Int.add_zero]
theorem oB_oDec (l : List UInt8) (h : l.length = 30) : oB (oDec l) = l := by
  unfold oB lB ptrs oDec
  simp only [List.flatMap_cons, List.flatMap_nil, Int.toNat_natCast, show ∀ n : Nat, ((n : Int) - 1 + 1).toNat = n from fun n => by omega, List.append_nil]
  rw [by8_nm l 0 4 (by omega), by8_nm l 4 4 (by omega), by8_nm l 8 2 (by omega), by8_nm l 10 4 (by omega), by8_nm l 14 4 (by omega), by8_nm l 18 4 (by omega), by8_nm l 22 4 (by omega), by8_nm l 26 4 (by omega)]
  have t := fun (a b : Nat) => @List.drop_drop UInt8 a b l
  have s := fun (q n : Nat) => (List.take_append_drop n (l.drop q))
  have e8 := s 26 4
  rw [List.drop_drop, show (l.drop (26 + 4)) = [] from List.drop_eq_nil_iff.2 (by omega), List.append_nil] at e8
  have e7 := s 22 4
  have e6 := s 18 4
  have e5 := s 14 4
  have e4 := s 10 4
  have e3 := s 8 2
  have e2 := s 4 4
  have e1 := s 0 4
  rw [List.drop_drop] at e7 e6 e5 e4 e3 e2 e1
  simp only [List.append_assoc, List.drop_zero] at *
  rw [e8, e7, e6, e5, e4, e3, e2, e1]
theorem oDec_oB (r : OneV) (h : oFine r = true) : oDec (oB r) = { r with live := true } := by
  obtain ⟨a, b, c, d, e, f, g, i⟩ := oFine_bd h
  have hB : oB r = by8 4 r.fr.toNat ++ (by8 4 r.tu.toNat ++ (by8 2 r.ty.toNat ++ (by8 4 (r.fp + 1).toNat ++ (by8 4 (r.fn + 1).toNat ++ (by8 4 (r.tp + 1).toNat ++ (by8 4 (r.tn + 1).toNat ++ by8 4 (r.pr + 1).toNat)))))) := by
    unfold oB lB ptrs; simp
  have n1 : nm (oB r) 0 4 = r.fr.toNat := nm_of _ [] _ _ 0 4 (by rw [hB]; rfl) rfl (by omega)
  have n2 : nm (oB r) 4 4 = r.tu.toNat := nm_of _ (by8 4 r.fr.toNat) _ _ 4 4 hB (by8_length ..) (by omega)
  have n3 : nm (oB r) 8 2 = r.ty.toNat := nm_of _ (by8 4 r.fr.toNat ++ by8 4 r.tu.toNat) _ _ 8 2 (by rw [hB]; simp only [List.append_assoc]; rfl) (by simp only [List.length_append, by8_length]) (by omega)
  have n4 : nm (oB r) 10 4 = (r.fp + 1).toNat := nm_of _ (by8 4 r.fr.toNat ++ by8 4 r.tu.toNat ++ by8 2 r.ty.toNat) _ _ 10 4 (by rw [hB]; simp only [List.append_assoc]; rfl) (by simp only [List.length_append, by8_length]) (by omega)
  have n5 : nm (oB r) 14 4 = (r.fn + 1).toNat := nm_of _ (by8 4 r.fr.toNat ++ by8 4 r.tu.toNat ++ by8 2 r.ty.toNat ++ by8 4 (r.fp + 1).toNat) _ _ 14 4 (by rw [hB]; simp only [List.append_assoc]; rfl) (by simp only [List.length_append, by8_length]) (by omega)
  have n6 : nm (oB r) 18 4 = (r.tp + 1).toNat := nm_of _ (by8 4 r.fr.toNat ++ by8 4 r.tu.toNat ++ by8 2 r.ty.toNat ++ by8 4 (r.fp + 1).toNat ++ by8 4 (r.fn + 1).toNat) _ _ 18 4 (by rw [hB]; simp only [List.append_assoc]; rfl) (by simp only [List.length_append, by8_length]) (by omega)
  have n7 : nm (oB r) 22 4 = (r.tn + 1).toNat := nm_of _ (by8 4 r.fr.toNat ++ by8 4 r.tu.toNat ++ by8 2 r.ty.toNat ++ by8 4 (r.fp + 1).toNat ++ by8 4 (r.fn + 1).toNat ++ by8 4 (r.tp + 1).toNat) _ _ 22 4 (by rw [hB]; simp only [List.append_assoc]; rfl) (by simp only [List.length_append, by8_length]) (by omega)
  have n8 : nm (oB r) 26 4 = (r.pr + 1).toNat := nm_of _ (by8 4 r.fr.toNat ++ by8 4 r.tu.toNat ++ by8 2 r.ty.toNat ++ by8 4 (r.fp + 1).toNat ++ by8 4 (r.fn + 1).toNat ++ by8 4 (r.tp + 1).toNat ++ by8 4 (r.tn + 1).toNat) [] _ 26 4 (by rw [hB]; simp only [List.append_assoc, List.append_nil]) (by simp only [List.length_append, by8_length]) (by omega)
  unfold oDec
  rw [n1, n2, n3, n4, n5, n6, n7, n8]
  have q : ∀ z : Int, 0 ≤ z → (z.toNat : Int) = z := fun z h => Int.toNat_of_nonneg h
  have q1 : ∀ z : Int, -1 ≤ z → ((z + 1).toNat : Int) - 1 = z := fun z h => by rw [Int.toNat_of_nonneg (by omega)]; omega
  rw [q _ a.1, q _ b.1, q _ g.1, q1 _ c.1, q1 _ d.1, q1 _ e.1, q1 _ f.1, q1 _ i.1]
theorem nineO {w : World} {b T : Nat} {c0 c1 c2 c3 c4 c5 c6 c7 c8 : Value} (h : w.heap[b]? = some (.cells #[c0, c1, c2, c3, c4, c5, c6, c7, c8] T)) :
    w.cell? ⟨b, 0, none⟩ = some c0 ∧ w.cell? ⟨b, 1, none⟩ = some c1 ∧ w.cell? ⟨b, 2, none⟩ = some c2 ∧ w.cell? ⟨b, 3, none⟩ = some c3 ∧ w.cell? ⟨b, 4, none⟩ = some c4 ∧ w.cell? ⟨b, 5, none⟩ = some c5 ∧ w.cell? ⟨b, 6, none⟩ = some c6 ∧ w.cell? ⟨b, 7, none⟩ = some c7 ∧ w.cell? ⟨b, 8, none⟩ = some c8 :=
  ⟨cell_of_row _ _ 0 _ _ _ h, cell_of_row _ _ 1 _ _ _ h, cell_of_row _ _ 2 _ _ _ h, cell_of_row _ _ 3 _ _ _ h, cell_of_row _ _ 4 _ _ _ h, cell_of_row _ _ 5 _ _ _ h, cell_of_row _ _ 6 _ _ _ h, cell_of_row _ _ 7 _ _ _ h, cell_of_row _ _ 8 _ _ _ h⟩
set_option maxHeartbeats 800000 in
theorem refPutRo_no (lv : Bool) (fr tu fp tp fn tn ty pr : Int) (w : World) (h : oFine ⟨lv, fr, tu, fp, tp, fn, tn, ty, pr⟩ = false) :
    Calls Try.prog 12 #[.agg #[.bool lv, .int .i64 fr, .int .i64 tu, .int .i64 fp, .int .i64 tp, .int .i64 fn, .int .i64 tn, .int .i64 ty, .int .i64 pr]] w fun e w' => ∃ v, e = .returned (.tuple #[v, .int .i64 41]) ∧ Fresh w.heap.size w w' v [] := by
  have H := Lib.hid h; clear h
  by_cases hl : lFine fr tu fp fn tp tn = true
  · by_cases ht : inB ty 0 200 = true
    · have ho : inB pr (-1) 65536 = false := by
        have := H.out
        unfold oFine at this
        simp only [hl, ht] at this
        simpa using this
      go_enter Try.func12, Try.ntmps12
      go_wp2_with (first
        | (go_at_call 29; refine (In_any _ _ _ _).mono ?_; rintro e w1 ⟨rfl, rfl⟩)
        | (go_at_call 28; refine (LinkRight_any lv fr tu fp tp fn tn _).mono ?_; rintro e w1 ⟨rfl, hf1⟩; have x7 := cell_of_row w1 _ 7 _ _ _ (hf1.obj (heap_alloc_new w _) (by simp)); have x8 := cell_of_row w1 _ 8 _ _ _ (hf1.obj (heap_alloc_new w _) (by simp))))
      go_ret2
      exact ⟨_, rfl, fresh_empty rfl (((Fr.refl _ _).alloc _).trans hf1)⟩
    · have ht : inB ty 0 200 = false := by simpa using ht
      go_enter Try.func12, Try.ntmps12
      go_wp2_with (first
        | (go_at_call 29; refine (In_any _ _ _ _).mono ?_; rintro e w1 ⟨rfl, rfl⟩)
        | (go_at_call 28; refine (LinkRight_any lv fr tu fp tp fn tn _).mono ?_; rintro e w1 ⟨rfl, hf1⟩; have x7 := cell_of_row w1 _ 7 _ _ _ (hf1.obj (heap_alloc_new w _) (by simp))))
      go_ret2
      exact ⟨_, rfl, fresh_empty rfl (((Fr.refl _ _).alloc _).trans hf1)⟩
  · have hl : lFine fr tu fp fn tp tn = false := by simpa using hl
    go_enter Try.func12, Try.ntmps12
    go_wp2_with (go_at_call 28; refine (LinkRight_any lv fr tu fp tp fn tn _).mono ?_; rintro e w1 ⟨rfl, hf1⟩)
    go_ret2
    exact ⟨_, rfl, fresh_empty rfl (((Fr.refl _ _).alloc _).trans hf1)⟩
set_option maxHeartbeats 1600000 in
theorem refPutRo_yes (lv : Bool) (fr tu fp tp fn tn ty pr : Int) (w : World) (h : oFine ⟨lv, fr, tu, fp, tp, fn, tn, ty, pr⟩ = true) :
    Calls Try.prog 12 #[.agg #[.bool lv, .int .i64 fr, .int .i64 tu, .int .i64 fp, .int .i64 tp, .int .i64 fn, .int .i64 tn, .int .i64 ty, .int .i64 pr]] w fun e w' => ∃ v, e = .returned (.tuple #[v, .int .i64 0]) ∧ Fresh w.heap.size w w' v (oB ⟨lv, fr, tu, fp, tp, fn, tn, ty, pr⟩) := by
  obtain ⟨⟨a1, a2⟩, ⟨b1, b2⟩, ⟨d1, d2⟩, ⟨e1, e2⟩, ⟨f1, f2⟩, ⟨g1, g2⟩, ⟨c1, c2⟩, ⟨i1, i2⟩⟩ := oFine_bd h
  simp only at a1 a2 b1 b2 c1 c2 d1 d2 e1 e2 f1 f2 g1 g2 i1 i2
  clear h
  have hl : lFine fr tu fp fn tp tn = true := by simp [lFine, inB_true a1 a2, inB_true b1 b2, inB_true d1 d2, inB_true e1 e2, inB_true f1 f2, inB_true g1 g2]
  have k3 := inB_true c1 c2
  have k8 := inB_true i1 i2
  have hlr := fun w => LinkRight_any lv fr tu fp tp fn tn w
  rw [hl] at hlr
  have HLR := Lib.hid hlr
  clear hl hlr
  go_enter Try.func12, Try.ntmps12
  go_wp2_with (first
    | (go_at_call 29; refine (In_any _ _ _ _).mono ?_; rintro e w1 ⟨rfl, rfl⟩)
    | (go_at_call 28; refine (HLR.out _).mono ?_; rintro e wa ⟨rfl, hf1⟩; have hba := hf1.obj (heap_alloc_new w _) (by simp); have x7 := cell_of_row wa _ 7 _ _ _ hba; have x8 := cell_of_row wa _ 8 _ _ _ hba))
  clear k3 k8 x7 x8
  have HFA := Lib.hid (((Fr.refl [] w).alloc _).trans hf1)
  have HBA := Lib.hid hba
  clear hf1
  go_region_held3 (fun w' => w'.cell? ⟨w.heap.size, 0, none⟩ = some (.bool lv) ∧ w'.cell? ⟨w.heap.size, 1, none⟩ = some (.int .i64 fr) ∧ w'.cell? ⟨w.heap.size, 2, none⟩ = some (.int .i64 tu) ∧ w'.cell? ⟨w.heap.size, 3, none⟩ = some (.int .i64 fp) ∧ w'.cell? ⟨w.heap.size, 4, none⟩ = some (.int .i64 tp) ∧ w'.cell? ⟨w.heap.size, 5, none⟩ = some (.int .i64 fn) ∧ w'.cell? ⟨w.heap.size, 6, none⟩ = some (.int .i64 tn) ∧ w'.cell? ⟨w.heap.size, 7, none⟩ = some (.int .i64 ty) ∧ w'.cell? ⟨w.heap.size, 8, none⟩ = some (.int .i64 pr))
    (first
      | assumption
      | exact nineO hba
      | exact nineO (hA.fr.obj (show wa.drew.heap[w.heap.size]? = some _ from hba) (by simp))
      | exact nineO (hB.fr.obj (hA.fr.obj (show wa.drew.heap[w.heap.size]? = some _ from hba) (by simp)) (by simp))
      | exact nineO (hC.fr.obj (show wa.drew.heap[w.heap.size]? = some _ from hba) (by simp)))
    (first
      | (go_at_call 31; refine (LinkBytes_any lv fr tu fp tp fn tn ty _ (by omega) (by omega) (by omega) (by omega) (by omega) (by omega) (by omega)).mono ?_; rintro e wA ⟨vA, rfl, hA⟩)
      | (go_at_call 32; refine (Ptr_any pr _ (by omega) (by omega)).mono ?_; rintro e wB ⟨vB, rfl, hB⟩)
      | (go_at_call 30; refine (Joined_fresh wa.drew wA _ vA vB _ _ hA.grow hB (by rw [lB_length, by8_length]; decide)).mono ?_; rintro e wC ⟨vC, rfl, hC⟩))
  have HFD := Lib.hid (show Fr [] w wa.drew from HFA.out.drew)
  have HC := Lib.hid hC
  clear hA hB hC
  go_wp2
  go_ret2
  refine ⟨vC, rfl, ?_⟩
  exact HC.out.fresh.base HFD.out (by have := HFD.out.size; omega)
end Go.Proofs.Ytbhmfbhfofgfaaa
