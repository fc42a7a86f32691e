/- The walks of the document's PutNode, and of the copies and comparison of nodes. -/
import Derived.Test.YtmekplamjlnhcaaRecS
namespace Go.Proofs.Ytmekplamjlnhcaa
open Go.RowKit
attribute [local go_sem ↓] Go.wp_at_zero Go.wp_at_succ
theorem own_lit1 (w : World) (x : UInt8) {v : Value} (hv : v = B8 x) : (w.alloc (.cells #[v] 5)).ownsRow w.heap.size 5 1 (.slice (some ⟨w.heap.size, 0, none⟩) 1 1) [x].length ([x].map B8) := by
  subst hv
  exact ⟨by simp, .inr ⟨w.heap.size, 1, _, rfl, Nat.le_refl _, heap_alloc_new w _, Nat.le_refl _, by unfold maxLen; omega, rfl, rfl⟩⟩
set_option maxHeartbeats 1600000 in
theorem refPutNode_no (dense : Bool) (first over : Int) (la : Option Addr) (lc : Nat) (labs : List Int) (sa : Option Addr) (sc : Nat) (sl : List UInt8) (w : World) (hl : labs.length ≤ 140737488351300) (hb : Ints w la labs) (h : nFine ⟨dense, first, over, labs, sl⟩ = false) :
    Calls Try.prog 26 #[.agg #[.bool dense, .int .i64 first, .int .i64 over, .slice la labs.length lc, .slice sa sl.length sc]] w fun e w' => ∃ v, e = .returned (.tuple #[v, .int .i64 41]) ∧ Fresh w.heap.size w w' v [] := by
  have H := Lib.hid h
  have HB := Lib.hid hb
  clear h hb
  cases dense
  · by_cases h1 : inB first (-1) 2048 = true
    · by_cases h2 : inB over (-1) 65536 = true
      · by_cases h3 : labFine labs = true
        · have hs : ¬ sl.length = 48 := by
            intro hs
            have := H.out
            simp [nFine, mostOf, h1, h2, h3, hs] at this
          have hb48 : ((sl.length : Int) != 48) = true := by rw [bne_iff_ne]; omega
          have HS := Lib.hid hs
          have hlb : ∀ w, Ints w la labs → Calls Try.prog 51 #[.slice la labs.length lc] w fun e w' => e = .returned (.bool true) ∧ Fr [] w w' := fun w hw => by
            have := LabelsRight_any la lc labs w hl hw
            rwa [h3] at this
          have HLB := Lib.hid hlb
          clear hs hlb h3
          go_enter Try.func26, Try.ntmps26
          go_wp2_with (first
            | (go_at_call 37; refine (In_any _ _ _ _).mono ?_; rintro e w1 ⟨rfl, rfl⟩)
            | (go_at_call 51; refine (HLB.out _ (HB.out.keep ((Fr.refl _ _).alloc _))).mono ?_; rintro e w1 ⟨rfl, hf1⟩; have x4 := cell_of_row w1 _ 4 _ _ _ (hf1.obj (heap_alloc_new w _) (by simp))))
          go_ret2
          exact ⟨_, rfl, fresh_empty rfl (((Fr.refl _ _).alloc _).trans hf1)⟩
        · have hlb : ∀ w, Ints w la labs → Calls Try.prog 51 #[.slice la labs.length lc] w fun e w' => e = .returned (.bool false) ∧ Fr [] w w' := fun w hw => by
            have := LabelsRight_any la lc labs w hl hw
            rwa [show labFine labs = false by simpa using h3] at this
          have HLB := Lib.hid hlb
          clear hlb h3
          go_enter Try.func26, Try.ntmps26
          go_wp2_with (first
            | (go_at_call 37; refine (In_any _ _ _ _).mono ?_; rintro e w1 ⟨rfl, rfl⟩)
            | (go_at_call 51; refine (HLB.out _ (HB.out.keep ((Fr.refl _ _).alloc _))).mono ?_; rintro e w1 ⟨rfl, hf1⟩))
          go_ret2
          exact ⟨_, rfl, fresh_empty rfl (((Fr.refl _ _).alloc _).trans hf1)⟩
      · have h2 : inB over (-1) 65536 = false := by simpa using h2
        go_enter Try.func26, Try.ntmps26
        go_wp2_with (go_at_call 37; refine (In_any _ _ _ _).mono ?_; rintro e w1 ⟨rfl, rfl⟩)
        go_ret2
        exact ⟨_, rfl, fresh_empty (by simp) ((Fr.refl _ _).alloc _)⟩
    · have h1 : inB first (-1) 2048 = false := by simpa using h1
      go_enter Try.func26, Try.ntmps26
      go_wp2_with (go_at_call 37; refine (In_any _ _ _ _).mono ?_; rintro e w1 ⟨rfl, rfl⟩)
      go_ret2
      exact ⟨_, rfl, fresh_empty (by simp) ((Fr.refl _ _).alloc _)⟩
  · by_cases h1 : inB first (-1) 65536 = true
    · by_cases h2 : inB over (-1) 65536 = true
      · by_cases h3 : labFine labs = true
        · have hs : ¬ sl.length = 48 := by
            intro hs
            have := H.out
            simp [nFine, mostOf, h1, h2, h3, hs] at this
          have hb48 : ((sl.length : Int) != 48) = true := by rw [bne_iff_ne]; omega
          have HS := Lib.hid hs
          have hlb : ∀ w, Ints w la labs → Calls Try.prog 51 #[.slice la labs.length lc] w fun e w' => e = .returned (.bool true) ∧ Fr [] w w' := fun w hw => by
            have := LabelsRight_any la lc labs w hl hw
            rwa [h3] at this
          have HLB := Lib.hid hlb
          clear hs hlb h3
          go_enter Try.func26, Try.ntmps26
          go_wp2_with (first
            | (go_at_call 37; refine (In_any _ _ _ _).mono ?_; rintro e w1 ⟨rfl, rfl⟩)
            | (go_at_call 51; refine (HLB.out _ (HB.out.keep ((Fr.refl _ _).alloc _))).mono ?_; rintro e w1 ⟨rfl, hf1⟩; have x4 := cell_of_row w1 _ 4 _ _ _ (hf1.obj (heap_alloc_new w _) (by simp))))
          go_ret2
          exact ⟨_, rfl, fresh_empty rfl (((Fr.refl _ _).alloc _).trans hf1)⟩
        · have hlb : ∀ w, Ints w la labs → Calls Try.prog 51 #[.slice la labs.length lc] w fun e w' => e = .returned (.bool false) ∧ Fr [] w w' := fun w hw => by
            have := LabelsRight_any la lc labs w hl hw
            rwa [show labFine labs = false by simpa using h3] at this
          have HLB := Lib.hid hlb
          clear hlb h3
          go_enter Try.func26, Try.ntmps26
          go_wp2_with (first
            | (go_at_call 37; refine (In_any _ _ _ _).mono ?_; rintro e w1 ⟨rfl, rfl⟩)
            | (go_at_call 51; refine (HLB.out _ (HB.out.keep ((Fr.refl _ _).alloc _))).mono ?_; rintro e w1 ⟨rfl, hf1⟩))
          go_ret2
          exact ⟨_, rfl, fresh_empty rfl (((Fr.refl _ _).alloc _).trans hf1)⟩
      · have h2 : inB over (-1) 65536 = false := by simpa using h2
        go_enter Try.func26, Try.ntmps26
        go_wp2_with (go_at_call 37; refine (In_any _ _ _ _).mono ?_; rintro e w1 ⟨rfl, rfl⟩)
        go_ret2
        exact ⟨_, rfl, fresh_empty (by simp) ((Fr.refl _ _).alloc _)⟩
    · have h1 : inB first (-1) 65536 = false := by simpa using h1
      go_enter Try.func26, Try.ntmps26
      go_wp2_with (go_at_call 37; refine (In_any _ _ _ _).mono ?_; rintro e w1 ⟨rfl, rfl⟩)
      go_ret2
      exact ⟨_, rfl, fresh_empty (by simp) ((Fr.refl _ _).alloc _)⟩
set_option maxHeartbeats 3200000 in
theorem refPutNode_yes (dense : Bool) (first over : Int) (la : Option Addr) (lc : Nat) (labs : List Int) (sa : Option Addr) (sc : Nat) (sl : List UInt8) (w : World) (hb : Ints w la labs) (hs : Bytes w sa sl) (h : nFine ⟨dense, first, over, labs, sl⟩ = true) :
    Calls Try.prog 26 #[.agg #[.bool dense, .int .i64 first, .int .i64 over, .slice la labs.length lc, .slice sa sl.length sc]] w fun e w' => ∃ v, e = .returned (.tuple #[v, .int .i64 0]) ∧ Fresh w.heap.size w w' v (nB ⟨dense, first, over, labs, sl⟩) := by
  obtain ⟨⟨a1, a2⟩, ⟨b1, b2⟩, c1, d1⟩ := nFine_bd h
  simp only at a1 a2 b1 b2 c1 d1
  have hm := mostOf_le dense
  have a3 : first < 65536 := by omega
  obtain ⟨lr, l8⟩ := labFine_bd c1
  have k2 := inB_true b1 b2
  have k9 : ((sl.length : Int) != 48) = false := by rw [bne_eq_false_iff_eq]; omega
  have hlb : ∀ w, Ints w la labs → Calls Try.prog 51 #[.slice la labs.length lc] w fun e w' => e = .returned (.bool true) ∧ Fr [] w w' := fun w hw => by
    have := LabelsRight_any la lc labs w (by omega) hw
    rwa [c1] at this
  have HLB := Lib.hid hlb
  have HLR := Lib.hid lr
  have HSL := Lib.hid d1
  have HB := Lib.hid hb
  have HS := Lib.hid hs
  clear h c1 d1 lr hb hs hm hlb
  cases dense
  · have k1 : inB first (-1) 2048 = true := inB_true a1 a2
    go_enter Try.func26, Try.ntmps26
    go_wp2_with (first
      | (go_at_call 37; refine (In_any _ _ _ _).mono ?_; rintro e w1 ⟨rfl, rfl⟩)
      | (go_at_call 51; refine (HLB.out _ (HB.out.keep ((Fr.refl _ _).alloc _))).mono ?_; rintro e w1 ⟨rfl, hf1⟩; have hba := hf1.obj (heap_alloc_new w (.cells #[.bool false, .int .i64 first, .int .i64 over, .slice la labs.length lc, .slice sa sl.length sc] 54)) (by simp); have x1 := cell_of_row w1 _ 1 _ _ _ hba; have x2 := cell_of_row w1 _ 2 _ _ _ hba; have x3 := cell_of_row w1 _ 3 _ _ _ hba; have x4 := cell_of_row w1 _ 4 _ _ _ hba; have hlt1 := (Array.getElem?_eq_some_iff.1 hba).1))
    clear k1 k2 k9
    have HBA := Lib.hid hba
    have HF1 := Lib.hid (((Fr.refl [] w).alloc _).trans hf1)
    clear hba hf1
    obtain ⟨wa, hwa⟩ : ∃ wa, wa = w1.alloc (.cells #[.int .u8 0] 5) := ⟨_, rfl⟩
    rw [← hwa]
    have hgr : Grow [] w1 wa (.slice (some ⟨w1.heap.size, 0, none⟩) 1 1) [0] := by
      rw [hwa]
      exact ⟨own_lit1 w1 0 (by unfold B8; rw [show I8 0 = 0 by decide +kernel]), by simp, fun _ h => (List.not_mem_nil h).elim, (Fr.refl _ _).alloc _⟩
    have HGA := Lib.hid hgr
    have hoa := hgr.fr.obj HBA.out (by simp)
    clear hwa hgr
    refine (Ptr_any first wa (by omega) (by omega)).mono ?_
    rintro e wb ⟨y1, rfl, hp1⟩
    have HP1 := Lib.hid hp1
    clear hp1 x1 x2 x3 x4
    go_wp2_with fail
    refine (Joined_fresh w1 wa wb _ y1 _ _ HGA.out HP1.out (by simp [by8_length])).mono ?_
    rintro e wc ⟨vc, rfl, hgc⟩
    have HGC := Lib.hid hgc
    have x2 := cell_of_row wc _ 2 _ _ _ (hgc.fr.obj HBA.out (by simp))
    clear hgc hoa
    go_wp2_with fail
    refine (Ptr_any over wc (by omega) (by omega)).mono ?_
    rintro e wd ⟨y2, rfl, hp2⟩
    have HP2 := Lib.hid hp2
    clear hp2
    go_wp2_with fail
    refine (Joined_fresh w1 wc wd _ y2 _ _ HGC.out HP2.out (by simp [by8_length])).mono ?_
    rintro e we ⟨ve, rfl, hge⟩
    have HGE := Lib.hid hge
    have y3 := cell_of_row we _ 3 _ _ _ (hge.fr.obj HBA.out (by simp))
    clear hge
    go_wp2_with fail
    refine (LabelBytes_any la lc labs we l8 HLR.out ((HB.out.keep HF1.out).keep HGE.out.fr)).mono ?_
    rintro e wf ⟨y4, rfl, hp4⟩
    have HP4 := Lib.hid hp4
    clear hp4
    go_wp2_with fail
    refine (Joined_fresh w1 we wf _ y4 _ _ HGE.out HP4.out (by simp [by8_length, labB_length labs l8])).mono ?_
    rintro e wg ⟨vg, rfl, hgg⟩
    have HGG := Lib.hid hgg
    have y4 := cell_of_row wg _ 4 _ _ _ (hgg.fr.obj HBA.out (by simp))
    have hbs := (HS.out.keep HF1.out).keep hgg.fr
    have hK : sl = [] ∨ ∀ ad, sa = some ad → vg.ownBlock ≠ some ad.block ∧ ad.block < wg.heap.size := by
      rcases HS.out with h | ⟨b0, off0, rfl, hc⟩
      · exact .inl h
      · refine .inr fun ad e => ?_
        cases e
        have hlt0 := World.block_lt_of_cell? w _ (hc 0 (by have := HSL.out; omega))
        have hs1 := HF1.out.size
        have hs2 := hgg.fr.size
        refine ⟨fun e => ?_, ?_⟩
        · have h3 : w1.heap.size ≤ b0 := (own_lt hgg.own e).1
          have h4 : b0 < w.heap.size := hlt0
          omega
        · show b0 < _
          have h4 : b0 < w.heap.size := hlt0
          omega
    have H5 := Lib.hid (Joined_grow [] w1 wg vg _ sa sc sl hgg hbs hK (by rw [HSL.out]; simp [by8_length, labB_length labs l8]))
    clear hgg hbs hK
    go_wp2_with fail
    refine H5.out.mono ?_
    rintro e wh ⟨vh, rfl, hgh, _⟩
    have HGH := Lib.hid hgh
    clear hgh
    go_wp2
    go_ret2
    refine ⟨vh, rfl, ?_⟩
    have h := HGH.out.fresh.base HF1.out (by have := HF1.out.size; omega)
    have e : [0] ++ by8 4 (first + 1).toNat ++ by8 4 (over + 1).toNat ++ labB labs ++ sl = nB ⟨false, first, over, labs, sl⟩ := by
      unfold nB ptrs
      simp [by8]
    rw [e] at h
    exact h
  · have k1 : inB first (-1) 65536 = true := inB_true a1 a2
    go_enter Try.func26, Try.ntmps26
    go_wp2_with (first
      | (go_at_call 37; refine (In_any _ _ _ _).mono ?_; rintro e w1 ⟨rfl, rfl⟩)
      | (go_at_call 51; refine (HLB.out _ (HB.out.keep ((Fr.refl _ _).alloc _))).mono ?_; rintro e w1 ⟨rfl, hf1⟩; have hba := hf1.obj (heap_alloc_new w (.cells #[.bool true, .int .i64 first, .int .i64 over, .slice la labs.length lc, .slice sa sl.length sc] 54)) (by simp); have x1 := cell_of_row w1 _ 1 _ _ _ hba; have x2 := cell_of_row w1 _ 2 _ _ _ hba; have x3 := cell_of_row w1 _ 3 _ _ _ hba; have x4 := cell_of_row w1 _ 4 _ _ _ hba; have hlt1 := (Array.getElem?_eq_some_iff.1 hba).1))
    clear k1 k2 k9
    have HBA := Lib.hid hba
    have HF1 := Lib.hid (((Fr.refl [] w).alloc _).trans hf1)
    clear hba hf1
    obtain ⟨wa, hwa⟩ : ∃ wa, wa = w1.alloc (.cells #[.int .u8 1] 5) := ⟨_, rfl⟩
    rw [← hwa]
    have hgr : Grow [] w1 wa (.slice (some ⟨w1.heap.size, 0, none⟩) 1 1) [1] := by
      rw [hwa]
      exact ⟨own_lit1 w1 1 (by unfold B8; rw [show I8 1 = 1 by decide +kernel]), by simp, fun _ h => (List.not_mem_nil h).elim, (Fr.refl _ _).alloc _⟩
    have HGA := Lib.hid hgr
    have hoa := hgr.fr.obj HBA.out (by simp)
    clear hwa hgr
    refine (Ptr_any first wa (by omega) (by omega)).mono ?_
    rintro e wb ⟨y1, rfl, hp1⟩
    have HP1 := Lib.hid hp1
    clear hp1 x1 x2 x3 x4
    go_wp2_with fail
    refine (Joined_fresh w1 wa wb _ y1 _ _ HGA.out HP1.out (by simp [by8_length])).mono ?_
    rintro e wc ⟨vc, rfl, hgc⟩
    have HGC := Lib.hid hgc
    have x2 := cell_of_row wc _ 2 _ _ _ (hgc.fr.obj HBA.out (by simp))
    clear hgc hoa
    go_wp2_with fail
    refine (Ptr_any over wc (by omega) (by omega)).mono ?_
    rintro e wd ⟨y2, rfl, hp2⟩
    have HP2 := Lib.hid hp2
    clear hp2
    go_wp2_with fail
    refine (Joined_fresh w1 wc wd _ y2 _ _ HGC.out HP2.out (by simp [by8_length])).mono ?_
    rintro e we ⟨ve, rfl, hge⟩
    have HGE := Lib.hid hge
    have y3 := cell_of_row we _ 3 _ _ _ (hge.fr.obj HBA.out (by simp))
    clear hge
    go_wp2_with fail
    refine (LabelBytes_any la lc labs we l8 HLR.out ((HB.out.keep HF1.out).keep HGE.out.fr)).mono ?_
    rintro e wf ⟨y4, rfl, hp4⟩
    have HP4 := Lib.hid hp4
    clear hp4
    go_wp2_with fail
    refine (Joined_fresh w1 we wf _ y4 _ _ HGE.out HP4.out (by simp [by8_length, labB_length labs l8])).mono ?_
    rintro e wg ⟨vg, rfl, hgg⟩
    have HGG := Lib.hid hgg
    have y4 := cell_of_row wg _ 4 _ _ _ (hgg.fr.obj HBA.out (by simp))
    have hbs := (HS.out.keep HF1.out).keep hgg.fr
    have hK : sl = [] ∨ ∀ ad, sa = some ad → vg.ownBlock ≠ some ad.block ∧ ad.block < wg.heap.size := by
      rcases HS.out with h | ⟨b0, off0, rfl, hc⟩
      · exact .inl h
      · refine .inr fun ad e => ?_
        cases e
        have hlt0 := World.block_lt_of_cell? w _ (hc 0 (by have := HSL.out; omega))
        have hs1 := HF1.out.size
        have hs2 := hgg.fr.size
        refine ⟨fun e => ?_, ?_⟩
        · have h3 : w1.heap.size ≤ b0 := (own_lt hgg.own e).1
          have h4 : b0 < w.heap.size := hlt0
          omega
        · show b0 < _
          have h4 : b0 < w.heap.size := hlt0
          omega
    have H5 := Lib.hid (Joined_grow [] w1 wg vg _ sa sc sl hgg hbs hK (by rw [HSL.out]; simp [by8_length, labB_length labs l8]))
    clear hgg hbs hK
    go_wp2_with fail
    refine H5.out.mono ?_
    rintro e wh ⟨vh, rfl, hgh, _⟩
    have HGH := Lib.hid hgh
    clear hgh
    go_wp2
    go_ret2
    refine ⟨vh, rfl, ?_⟩
    have h := HGH.out.fresh.base HF1.out (by have := HF1.out.size; omega)
    have e : [1] ++ by8 4 (first + 1).toNat ++ by8 4 (over + 1).toNat ++ labB labs ++ sl = nB ⟨true, first, over, labs, sl⟩ := by
      unfold nB ptrs
      simp [by8]
    rw [e] at h
    exact h
end Go.Proofs.Ytmekplamjlnhcaa
