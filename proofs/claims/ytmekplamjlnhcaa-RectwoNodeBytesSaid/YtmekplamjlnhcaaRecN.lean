/- The walks of the nodes of version 2: checked and written. -/
import Derived.Test.YtmekplamjlnhcaaRecM
namespace Go.Proofs.Ytmekplamjlnhcaa
open Go.RowKit
attribute [local go_sem ↓] Go.wp_at_zero Go.wp_at_succ
structure NodeV where
  dense : Bool
  first : Int
  over : Int
  labs : List Int
  sl : List UInt8
def mostOf (dense : Bool) : Int := if dense then 65536 else 2048
def nFine (n : NodeV) : Bool := inB n.first (-1) (mostOf n.dense) && (inB n.over (-1) 65536 && (labFine n.labs && decide (n.sl.length = 48)))
/-- a node's bytes -/
def nB (n : NodeV) : List UInt8 := by8 1 (if n.dense then 1 else 0) ++ ptrs [n.first, n.over] ++ labB n.labs ++ n.sl
theorem nFine_bd {n : NodeV} (h : nFine n = true) : (-1 ≤ n.first ∧ n.first < mostOf n.dense) ∧ (-1 ≤ n.over ∧ n.over < 65536) ∧ labFine n.labs = true ∧ n.sl.length = 48 := by
  simp only [nFine, Bool.and_eq_true, inB_iff, decide_eq_true_eq] at h
  exact ⟨h.1, h.2.1, h.2.2.1, h.2.2.2⟩
theorem mostOf_le (b : Bool) : mostOf b ≤ 65536 := by cases b <;> decide
set_option maxHeartbeats 800000 in
theorem nodeFine_any (dense : Bool) (first over : Int) (la : Option Addr) (lc : Nat) (labs : List Int) (sa : Option Addr) (sc : Nat) (sl : List UInt8) (w : World) (hl : labs.length ≤ 140737488351300) (hb : Ints w la labs) :
    Calls Try.prog 50 #[.agg #[.bool dense, .int .i64 first, .int .i64 over, .slice la labs.length lc, .slice sa sl.length sc]] w fun e w' => e = .returned (.bool (nFine ⟨dense, first, over, labs, sl⟩)) ∧ Fr [] w w' := by
  have HD := Lib.hid (len_dec sl.length 48)
  have hb2 := hb.keep ((Fr.refl [] w).alloc (.cells #[.bool dense, .int .i64 first, .int .i64 over, .slice la labs.length lc, .slice sa sl.length sc] 54))
  have HB := Lib.hid hb2
  have hm1 : mostOf true = 65536 := rfl
  have hm2 : mostOf false = 2048 := rfl
  have HM1 := Lib.hid hm1
  have HM2 := Lib.hid hm2
  clear hb hb2 hm1 hm2
  cases dense
  all_goals
    go_enter Try.func50, Try.ntmps50
    go_wp2_with (first
      | (go_at_call 57; refine (pointer_any _ _ _).mono ?_; rintro e w1 ⟨rfl, rfl⟩)
      | (go_at_call 66; refine (labelsFine_any _ _ _ _ hl HB.out).mono ?_; rintro e w1 ⟨rfl, rfl⟩))
    all_goals
      go_ret
      refine ⟨ret_bool ?_, (Fr.refl _ _).alloc _⟩
      have hd := HD.out
      have hm1 := HM1.out
      have hm2 := HM2.out
      simp [nFine, *] <;> simpa using hd.symm
theorem PutNode_no (dense : Bool) (first over : Int) (la : Option Addr) (lc : Nat) (labs : List Int) (sa : Option Addr) (sc : Nat) (sl : List UInt8) (w : World) (hl : labs.length ≤ 140737488351300) (hb : Ints w la labs) (h : nFine ⟨dense, first, over, labs, sl⟩ = false) :
    Calls Try.prog 25 #[.agg #[.bool dense, .int .i64 first, .int .i64 over, .slice la labs.length lc, .slice sa sl.length sc]] w fun e w' => e = .returned (.tuple #[.slice none 0 0, .int .i64 41]) ∧ Fr [] w w' := by
  have H := Lib.hid h; clear h
  have HB := Lib.hid hb; clear hb
  go_enter Try.func25, Try.ntmps25
  go_wp2_with fail
  refine (nodeFine_any dense first over la lc labs sa sc sl _ hl (HB.out.keep ((Fr.refl _ _).alloc _))).mono ?_
  rintro e w1 ⟨rfl, hf⟩
  rw [H.out]
  go_wp2
  go_ret2
  exact ⟨rfl, ((Fr.refl _ _).alloc _).trans hf⟩
/-- the eight bytes behind k rounds -/
def eightAt (l : List Int) (k : Nat) : List UInt8 := (l.take k).map labByte ++ List.replicate (8 - k) 0
theorem eightAt_length (l : List Int) (k : Nat) (h : k ≤ l.length) (h8 : l.length ≤ 8) : (eightAt l k).length = 8 := by
  unfold eightAt; rw [List.length_append, List.length_map, List.length_take, List.length_replicate]; omega
theorem eightAt_next (l : List Int) (k : Nat) (h : k < l.length) (h8 : l.length ≤ 8) : (eightAt l k).set k (labByte (l.getD k 0)) = eightAt l (k + 1) := by
  unfold eightAt
  rw [List.set_append_right _ _ (by rw [List.length_map, List.length_take]; omega), List.length_map, List.length_take, show k - min k l.length = 0 by omega,
    show 8 - k = (8 - (k + 1)) + 1 by omega, List.replicate_succ, List.set_cons_zero, take_snoc l k h, List.map_append, List.append_assoc]
  simp [List.getD, h]
theorem eightAt_end (l : List Int) (h8 : l.length ≤ 8) : eightAt l l.length = labB l := by
  unfold eightAt labB; rw [List.take_of_length_le (Nat.le_refl _)]
theorem obj_bytes {w : World} {e T : Nat} {l : List UInt8} (h : w.heap[e]? = some (.cells (l.map B8).toArray T)) : Bytes w (some ⟨e, 0, none⟩) l := by
  refine Or.inr ⟨e, 0, rfl, fun j hj => ?_⟩
  rw [Nat.zero_add, cell_of_row w e j _ T _ h, List.getElem?_toArray]
  simp [List.getD, hj]
set_option maxHeartbeats 1600000 in
theorem PutNode_yes (dense : Bool) (first over : Int) (la : Option Addr) (lc : Nat) (labs : List Int) (sa : Option Addr) (sc : Nat) (sl : List UInt8) (w : World) (hb : Ints w la labs) (hno : sa = none → sc = 0) (hs : Bytes w sa sl) (h : nFine ⟨dense, first, over, labs, sl⟩ = true) :
    Calls Try.prog 25 #[.agg #[.bool dense, .int .i64 first, .int .i64 over, .slice la labs.length lc, .slice sa sl.length sc]] w fun e w' => ∃ v, e = .returned (.tuple #[v, .int .i64 0]) ∧ Fresh w.heap.size w w' v (nB ⟨dense, first, over, labs, sl⟩) := by
  have H := Lib.hid h
  obtain ⟨⟨a1, a2⟩, ⟨b1, b2⟩, c1, d1⟩ := nFine_bd h
  simp only at a1 a2 b1 b2 c1 d1
  have hm := mostOf_le dense
  obtain ⟨lr, l8⟩ := labFine_bd c1
  have HLR := Lib.hid lr
  have HSL := Lib.hid d1
  have HNO := Lib.hid hno
  have HB := Lib.hid hb
  have HS := Lib.hid hs
  have a3 : first < 65536 := by omega
  clear h c1 d1 lr hno hb hs hm a2
  have I0 := Lib.hid (show I8 0 = 0 by decide +kernel)
  cases dense
  · go_enter Try.func25, Try.ntmps25
    go_wp2_with fail
    obtain ⟨wa, hwa⟩ : ∃ wa, wa = w.alloc (.cells #[.bool false, .int .i64 first, .int .i64 over, .slice la labs.length lc, .slice sa sl.length sc] 54) := ⟨_, rfl⟩
    rw [← hwa]
    have hfa : Fr [] w wa := by rw [hwa]; exact (Fr.refl _ _).alloc _
    have hba : wa.heap[w.heap.size]? = some (.cells #[.bool false, .int .i64 first, .int .i64 over, .slice la labs.length lc, .slice sa sl.length sc] 54) := by rw [hwa]; exact heap_alloc_new w _
    clear hwa
    refine (nodeFine_any false first over la lc labs sa sc sl _ (by omega) (HB.out.keep hfa)).mono ?_
    rintro e w1 ⟨rfl, hf1⟩
    rw [H.out]
    have HBA := Lib.hid (hf1.obj hba (by simp))
    have HF1 := Lib.hid (hfa.trans hf1)
    clear hba hf1 hfa
    go_wp2_with fail
    refine (NewW w1).mono ?_
    rintro e w2 ⟨rfl, hw⟩
    have HW := Lib.hid hw
    have x0 := cell_of_row w2 _ 0 _ _ _ (hw.fr.obj HBA.out (by simp))
    clear hw
    obtain ⟨p, hp⟩ : ∃ p, p = w1.heap.size := ⟨_, rfl⟩
    rw [← hp] at HW ⊢
    clear hp
    go_wp2_with fail
    refine (NumW w1 w2 p [] 1 0 HW.out (by unfold Wd; omega) (by omega) (by omega) (by simp)).mono ?_
    rintro e w3 ⟨rfl, hw⟩
    have HW3 := Lib.hid hw
    have x1 := cell_of_row w3 _ 1 _ _ _ (hw.fr.obj HBA.out (by simp))
    have x2 := cell_of_row w3 _ 2 _ _ _ (hw.fr.obj HBA.out (by simp))
    clear hw
    go_wp2_with fail
    refine (putW w1 w3 _ p _ 2 _ [first, over] HW3.out ((Fr.refl _ _).alloc _) (Nat.le_refl _) (Ints.new _ rfl rfl) (by simp) (by rw [List.nil_append, by8_length]; omega) (by simp; omega)).mono ?_
    rintro e w4 ⟨rfl, hw⟩
    have HW4 := Lib.hid hw
    have y3 := cell_of_row w4 _ 3 _ _ _ (hw.fr.obj HBA.out (by simp))
    have hb4 : w.heap.size < w4.heap.size := (Array.getElem?_eq_some_iff.1 (hw.fr.obj HBA.out (by simp))).1
    clear hw
    go_wp2_with fail
    obtain ⟨w5, hw5⟩ : ∃ w5, w5 = w4.alloc (.cells #[.int .u8 0, .int .u8 0, .int .u8 0, .int .u8 0, .int .u8 0, .int .u8 0, .int .u8 0, .int .u8 0] 86) := ⟨_, rfl⟩
    rw [← hw5]
    have hf5 : Fr [] w4 w5 := by rw [hw5]; exact (Fr.refl _ _).alloc _
    have ho5 : w5.heap[w4.heap.size]? = some (.cells ((eightAt labs 0).map B8).toArray 86) := by
      rw [hw5, heap_alloc_new w4 _]
      simp [eightAt, B8, I0.out]
    clear hw5
    have HO5 := Lib.hid ho5
    have HF5 := Lib.hid hf5
    have hlt4 := hf5.size
    have hlt5 := (Array.getElem?_eq_some_iff.1 ho5).1
    clear ho5 hf5
    go_loopw [7, 8, 28] (fun _ _ i wr => ∃ k : Nat, k ≤ labs.length ∧ i = .int .i64 k ∧ wr.heap[w4.heap.size]? = some (.cells ((eightAt labs k).map B8).toArray 86) ∧ Fr [w4.heap.size] w5 wr) (fun _ _ i _ => labs.length - (intOf i).toNat)
    case atStart => exact ⟨0, by omega, rfl, HO5.out, Fr.refl _ _⟩
    case round =>
      obtain ⟨k, hk, rfl, hob, hfr⟩ := hrel
      have HO := Lib.hid hob
      have HF := Lib.hid hfr
      clear hob hfr
      by_cases hlt : k < labs.length
      · have hints := (((HB.out.keep HF1.out).keep HW4.out.fr).keep HF5.out)
        obtain ⟨b, off, rfl, hc⟩ := hints.at (by omega)
        have hbl : b < w4.heap.size := World.block_lt_of_cell? _ _ (((HB.out.keep HF1.out).keep HW4.out.fr).at (by omega) |> fun ⟨b', off', e, hc'⟩ => (show w4.cell? ⟨b, off + k, none⟩ = some (.int .i64 (labs.getD k 0)) by cases e; exact hc' k hlt))
        have hcell : wr.cell? ⟨b, off + k, none⟩ = some (.int .i64 (labs.getD k 0)) := HF.out.cell (hc k hlt) (by simp; omega)
        have HX := Lib.hid (eightAt_next labs k hlt l8)
        have hbd : 0 ≤ labs.getD k 0 ∧ labs.getD k 0 < 200 := by
          have := HLR.out labs[k] (List.getElem_mem hlt)
          simpa [List.getD, hlt] using this
        clear hc hints
        generalize labs.getD k 0 = x at hcell HX hbd
        obtain ⟨z1, z2⟩ := hbd
        have hwl := wrap_lab x z1 z2
        have hc8 : ∃ y, wr.cell? ⟨w4.heap.size, k, none⟩ = some y := by
          have e := cell_of_row wr _ k _ _ _ HO.out
          rw [List.getElem?_toArray, List.getElem?_eq_getElem (by rw [List.length_map, eightAt_length labs k hk l8]; omega)] at e
          exact ⟨_, e⟩
        obtain ⟨y, hc8⟩ := hc8
        have hz8 := frozen_of_row wr _ k _ _ HO.out
        have hk8 : (k : Int) < 8 := by omega
        go_wp2_with fail
        go_roundw
        case rel =>
          refine ⟨k + 1, by omega, by go_num, ?_, HF.out.setCell (by simp) _⟩
          rw [heap_setCell_same wr _ k _ _ _ HO.out, ← HX.out, List.map_set]
          simp [B8]
        case measure => simp [intOf] <;> omega
      · have HE := Lib.hid (show eightAt labs k = labB labs by rw [show k = labs.length by omega]; exact eightAt_end labs l8)
        have HL8 := Lib.hid (labB_length labs l8)
        have hfr4 : Fr [] w4 wr := HF5.out.next HF.out (by intro i hi hlt2; simp at hi; omega)
        have hwr := HW4.out.still hfr4
        have hby : Bytes wr (some ⟨w4.heap.size, 0, none⟩) (labB labs) := by
          have := obj_bytes HO.out
          rwa [HE.out] at this
        have H6 := RawW w1 wr p _ (some ⟨w4.heap.size, 0, none⟩) 8 (labB labs) hwr hby (fun h => by cases h) (by simp only [List.nil_append, List.length_append, by8_length, ptrs_length, HL8.out]; simp)
        rw [HL8.out] at H6
        clear hby hwr hfr4
        have H6H := Lib.hid H6
        clear H6
        go_wp2_with fail
        refine H6H.out.mono ?_
        rintro e w6 ⟨rfl, hw⟩
        have HW6 := Lib.hid hw
        have y4 := cell_of_row w6 _ 4 _ _ _ (hw.fr.obj HBA.out (by simp))
        have hbs := HS.out.keep (HF1.out.trans hw.fr)
        clear hw
        go_wp2_with fail
        have HLE := Lib.hid (show ([] ++ by8 1 (Int.toNat 0) ++ ptrs [first, over] ++ labB labs).length = 17 by simp only [List.nil_append, List.length_append, by8_length, ptrs_length, HL8.out]; simp)
        refine (RawW w1 w6 p _ sa sc sl HW6.out hbs HNO.out (by rw [HLE.out, HSL.out]; omega)).mono ?_
        rintro e w7 ⟨rfl, hw⟩
        have HW7 := Lib.hid hw
        clear hw hbs
        go_wp2_with fail
        refine (BytesW w1 w7 p _ HW7.out (by rw [List.length_append, HLE.out, HSL.out]; omega)).mono ?_
        rintro e w8 ⟨u, rfl, hg⟩
        have HG := Lib.hid hg
        clear hg
        go_wp2
        go_ret2
        have hg := HG.out.fresh (by rw [List.length_append, HLE.out]; omega)
        rw [List.nil_append] at hg
        exact ⟨u, rfl, hg.base (HF1.out.trans HW7.out.fr) (by have := (HF1.out.trans HW7.out.fr).size; omega)⟩
  · go_enter Try.func25, Try.ntmps25
    go_wp2_with fail
    obtain ⟨wa, hwa⟩ : ∃ wa, wa = w.alloc (.cells #[.bool true, .int .i64 first, .int .i64 over, .slice la labs.length lc, .slice sa sl.length sc] 54) := ⟨_, rfl⟩
    rw [← hwa]
    have hfa : Fr [] w wa := by rw [hwa]; exact (Fr.refl _ _).alloc _
    have hba : wa.heap[w.heap.size]? = some (.cells #[.bool true, .int .i64 first, .int .i64 over, .slice la labs.length lc, .slice sa sl.length sc] 54) := by rw [hwa]; exact heap_alloc_new w _
    clear hwa
    refine (nodeFine_any true first over la lc labs sa sc sl _ (by omega) (HB.out.keep hfa)).mono ?_
    rintro e w1 ⟨rfl, hf1⟩
    rw [H.out]
    have HBA := Lib.hid (hf1.obj hba (by simp))
    have HF1 := Lib.hid (hfa.trans hf1)
    clear hba hf1 hfa
    go_wp2_with fail
    refine (NewW w1).mono ?_
    rintro e w2 ⟨rfl, hw⟩
    have HW := Lib.hid hw
    have x0 := cell_of_row w2 _ 0 _ _ _ (hw.fr.obj HBA.out (by simp))
    clear hw
    obtain ⟨p, hp⟩ : ∃ p, p = w1.heap.size := ⟨_, rfl⟩
    rw [← hp] at HW ⊢
    clear hp
    go_wp2_with fail
    refine (NumW w1 w2 p [] 1 1 HW.out (by unfold Wd; omega) (by omega) (by omega) (by simp)).mono ?_
    rintro e w3 ⟨rfl, hw⟩
    have HW3 := Lib.hid hw
    have x1 := cell_of_row w3 _ 1 _ _ _ (hw.fr.obj HBA.out (by simp))
    have x2 := cell_of_row w3 _ 2 _ _ _ (hw.fr.obj HBA.out (by simp))
    clear hw
    go_wp2_with fail
    refine (putW w1 w3 _ p _ 2 _ [first, over] HW3.out ((Fr.refl _ _).alloc _) (Nat.le_refl _) (Ints.new _ rfl rfl) (by simp) (by rw [List.nil_append, by8_length]; omega) (by simp; omega)).mono ?_
    rintro e w4 ⟨rfl, hw⟩
    have HW4 := Lib.hid hw
    have y3 := cell_of_row w4 _ 3 _ _ _ (hw.fr.obj HBA.out (by simp))
    have hb4 : w.heap.size < w4.heap.size := (Array.getElem?_eq_some_iff.1 (hw.fr.obj HBA.out (by simp))).1
    clear hw
    go_wp2_with fail
    obtain ⟨w5, hw5⟩ : ∃ w5, w5 = w4.alloc (.cells #[.int .u8 0, .int .u8 0, .int .u8 0, .int .u8 0, .int .u8 0, .int .u8 0, .int .u8 0, .int .u8 0] 86) := ⟨_, rfl⟩
    rw [← hw5]
    have hf5 : Fr [] w4 w5 := by rw [hw5]; exact (Fr.refl _ _).alloc _
    have ho5 : w5.heap[w4.heap.size]? = some (.cells ((eightAt labs 0).map B8).toArray 86) := by
      rw [hw5, heap_alloc_new w4 _]
      simp [eightAt, B8, I0.out]
    clear hw5
    have HO5 := Lib.hid ho5
    have HF5 := Lib.hid hf5
    have hlt4 := hf5.size
    have hlt5 := (Array.getElem?_eq_some_iff.1 ho5).1
    clear ho5 hf5
    go_loopw [7, 8, 28] (fun _ _ i wr => ∃ k : Nat, k ≤ labs.length ∧ i = .int .i64 k ∧ wr.heap[w4.heap.size]? = some (.cells ((eightAt labs k).map B8).toArray 86) ∧ Fr [w4.heap.size] w5 wr) (fun _ _ i _ => labs.length - (intOf i).toNat)
    case atStart => exact ⟨0, by omega, rfl, HO5.out, Fr.refl _ _⟩
    case round =>
      obtain ⟨k, hk, rfl, hob, hfr⟩ := hrel
      have HO := Lib.hid hob
      have HF := Lib.hid hfr
      clear hob hfr
      by_cases hlt : k < labs.length
      · have hints := (((HB.out.keep HF1.out).keep HW4.out.fr).keep HF5.out)
        obtain ⟨b, off, rfl, hc⟩ := hints.at (by omega)
        have hbl : b < w4.heap.size := World.block_lt_of_cell? _ _ (((HB.out.keep HF1.out).keep HW4.out.fr).at (by omega) |> fun ⟨b', off', e, hc'⟩ => (show w4.cell? ⟨b, off + k, none⟩ = some (.int .i64 (labs.getD k 0)) by cases e; exact hc' k hlt))
        have hcell : wr.cell? ⟨b, off + k, none⟩ = some (.int .i64 (labs.getD k 0)) := HF.out.cell (hc k hlt) (by simp; omega)
        have HX := Lib.hid (eightAt_next labs k hlt l8)
        have hbd : 0 ≤ labs.getD k 0 ∧ labs.getD k 0 < 200 := by
          have := HLR.out labs[k] (List.getElem_mem hlt)
          simpa [List.getD, hlt] using this
        clear hc hints
        generalize labs.getD k 0 = x at hcell HX hbd
        obtain ⟨z1, z2⟩ := hbd
        have hwl := wrap_lab x z1 z2
        have hc8 : ∃ y, wr.cell? ⟨w4.heap.size, k, none⟩ = some y := by
          have e := cell_of_row wr _ k _ _ _ HO.out
          rw [List.getElem?_toArray, List.getElem?_eq_getElem (by rw [List.length_map, eightAt_length labs k hk l8]; omega)] at e
          exact ⟨_, e⟩
        obtain ⟨y, hc8⟩ := hc8
        have hz8 := frozen_of_row wr _ k _ _ HO.out
        have hk8 : (k : Int) < 8 := by omega
        go_wp2_with fail
        go_roundw
        case rel =>
          refine ⟨k + 1, by omega, by go_num, ?_, HF.out.setCell (by simp) _⟩
          rw [heap_setCell_same wr _ k _ _ _ HO.out, ← HX.out, List.map_set]
          simp [B8]
        case measure => simp [intOf] <;> omega
      · have HE := Lib.hid (show eightAt labs k = labB labs by rw [show k = labs.length by omega]; exact eightAt_end labs l8)
        have HL8 := Lib.hid (labB_length labs l8)
        have hfr4 : Fr [] w4 wr := HF5.out.next HF.out (by intro i hi hlt2; simp at hi; omega)
        have hwr := HW4.out.still hfr4
        have hby : Bytes wr (some ⟨w4.heap.size, 0, none⟩) (labB labs) := by
          have := obj_bytes HO.out
          rwa [HE.out] at this
        have H6 := RawW w1 wr p _ (some ⟨w4.heap.size, 0, none⟩) 8 (labB labs) hwr hby (fun h => by cases h) (by simp only [List.nil_append, List.length_append, by8_length, ptrs_length, HL8.out]; simp)
        rw [HL8.out] at H6
        clear hby hwr hfr4
        have H6H := Lib.hid H6
        clear H6
        go_wp2_with fail
        refine H6H.out.mono ?_
        rintro e w6 ⟨rfl, hw⟩
        have HW6 := Lib.hid hw
        have y4 := cell_of_row w6 _ 4 _ _ _ (hw.fr.obj HBA.out (by simp))
        have hbs := HS.out.keep (HF1.out.trans hw.fr)
        clear hw
        go_wp2_with fail
        have HLE := Lib.hid (show ([] ++ by8 1 (Int.toNat 1) ++ ptrs [first, over] ++ labB labs).length = 17 by simp only [List.nil_append, List.length_append, by8_length, ptrs_length, HL8.out]; simp)
        refine (RawW w1 w6 p _ sa sc sl HW6.out hbs HNO.out (by rw [HLE.out, HSL.out]; omega)).mono ?_
        rintro e w7 ⟨rfl, hw⟩
        have HW7 := Lib.hid hw
        clear hw hbs
        go_wp2_with fail
        refine (BytesW w1 w7 p _ HW7.out (by rw [List.length_append, HLE.out, HSL.out]; omega)).mono ?_
        rintro e w8 ⟨u, rfl, hg⟩
        have HG := Lib.hid hg
        clear hg
        go_wp2
        go_ret2
        have hg := HG.out.fresh (by rw [List.length_append, HLE.out]; omega)
        rw [List.nil_append] at hg
        exact ⟨u, rfl, hg.base (HF1.out.trans HW7.out.fr) (by have := (HF1.out.trans HW7.out.fr).size; omega)⟩
end Go.Proofs.Ytmekplamjlnhcaa
