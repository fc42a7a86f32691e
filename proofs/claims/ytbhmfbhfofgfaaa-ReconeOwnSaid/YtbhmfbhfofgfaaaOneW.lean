/- The walks of ReconeNodes and ReconeNodeBytes. -/
import Derived.Test.YtbhmfbhfofgfaaaOneV
import Derived.Test.YtbhmfbhfofgfaaaOneJ
namespace Go.Proofs.Ytbhmfbhfofgfaaa
open Go.RowKit
attribute [local go_sem ↓] Go.wp_at_zero Go.wp_at_succ
set_option maxHeartbeats 800000 in
theorem sameNode12_eq (rl pp : Int) (la lb : Option Addr) (lc ld : Nat) (labs : List Int) (w : World) (hll : labs.length ≤ 140737488351300) (hia : Ints w la labs) (hib : Ints w lb labs) :
    Calls Try.prog 19 #[.agg #[.int .i64 rl, .int .i64 pp, .slice la labs.length lc], .agg #[.int .i64 rl, .int .i64 pp, .slice lb labs.length ld]] w fun e w' => e = .returned (.bool true) ∧ Fr [] w w' := by
  obtain ⟨wb, hwb⟩ : ∃ wb, wb = (w.alloc (.cells #[.int .i64 rl, .int .i64 pp, .slice la labs.length lc] 43)).alloc (.cells #[.int .i64 rl, .int .i64 pp, .slice lb labs.length ld] 43) := ⟨_, rfl⟩
  have hf : Fr [] w wb := by rw [hwb]; exact ((Fr.refl _ _).alloc _).alloc _
  have HS := Lib.hid (SameInts_eq la lb lc ld labs wb hll (hia.keep hf) (hib.keep hf))
  have HF := Lib.hid hf
  clear hia hib hf
  go_enter Try.func19, Try.ntmps19
  go_wp2_with fail
  rw [← hwb]
  clear hwb
  refine HS.out.mono ?_
  rintro e w1 ⟨rfl, hf1⟩
  have HF1 := Lib.hid hf1
  clear hf1
  go_wp2
  go_ret
  exact ⟨rfl, HF.out.trans HF1.out⟩
set_option maxRecDepth 100000 in
set_option maxHeartbeats 3200000 in
theorem reconeNodes_walk (rl pp : Int) (la : Option Addr) (lc : Nat) (labs : List Int) (w : World) (hll : labs.length ≤ 17592186044000) (hnl : la = none → lc = 0) (hi : Ints w la labs) :
    Calls Try.prog 5 #[.agg #[.int .i64 rl, .int .i64 pp, .slice la labs.length lc]] w fun e w' => e = .returned (.bool true) ∧ Fr [] w w' := by
  have HLL := Lib.hid hll
  have HL2 : labs.length ≤ 140737488351300 := by omega
  have HNL := Lib.hid hnl
  have HI := Lib.hid hi
  clear hll hnl hi
  go_enter Try.func5, Try.ntmps5
  go_wp2_with fail
  obtain ⟨wa, hwa⟩ : ∃ wa, wa = w.alloc (.cells #[.int .i64 rl, .int .i64 pp, .slice la labs.length lc] 43) := ⟨_, rfl⟩
  rw [← hwa]
  have hfa : Fr [] w wa := by rw [hwa]; exact (Fr.refl _ _).alloc _
  have hba : wa.heap[w.heap.size]? = some (.cells #[.int .i64 rl, .int .i64 pp, .slice la labs.length lc] 43) := by rw [hwa]; exact heap_alloc_new w _
  clear hwa
  refine (speaks12 wa).mono ?_
  rintro e w1 ⟨rfl, hf1⟩
  have hb1 := hf1.obj hba (by simp)
  have HO1 := Lib.hid hb1
  have HF1 := Lib.hid (hfa.trans hf1)
  have HW1 := Lib.hid HF1.out.size
  obtain ⟨x0, x1, x2⟩ := three hb1
  clear hfa hba hf1 hb1
  go_upto_region 4 with fail
  obtain ⟨wb, hwb⟩ : ∃ wb, wb = w1.alloc (.cells #[.int .i64 rl, .int .i64 pp, .slice la labs.length lc] 43) := ⟨_, rfl⟩
  rw [← hwb]
  have hfb : Fr [] w1 wb := by rw [hwb]; exact (Fr.refl _ _).alloc _
  have hib : wb.heap[w1.heap.size]? = some (.cells #[.int .i64 rl, .int .i64 pp, .slice la labs.length lc] 43) := by rw [hwb]; exact heap_alloc_new w1 _
  have HFB := Lib.hid hfb
  have HIB := Lib.hid hib
  have hob := hfb.obj HO1.out (by simp)
  have HOB := Lib.hid hob
  have hlt1 := (Array.getElem?_eq_some_iff.1 HO1.out).1
  have hltO := (Array.getElem?_eq_some_iff.1 hob).1
  have hltb := (Array.getElem?_eq_some_iff.1 hib).1
  have y2 := cell_of_row wb _ 2 _ _ _ hob
  have HINT := Lib.hid (HI.out.keep (HF1.out.trans hfb))
  clear hwb hfb hib hob x0 x1 x2
  generalize w1.heap.size = ib at HIB hlt1 hltb ⊢
  go_cut [] (fun wx => ∃ (la2 : Option Addr) (lc2 : Nat), wx.heap[ib]? = some (.cells #[.int .i64 rl, .int .i64 pp, .slice la2 labs.length lc2] 43) ∧ wx.ownsRow wb.heap.size 3 1 (.slice la2 labs.length lc2) labs.length (labs.map (Value.int .i64)) ∧ Fr [ib] wb wx)
  case first =>
    have HOWN := Lib.hid (show (wb.alloc (.cells #[] 3)).ownsRow wb.heap.size 3 1 (.slice (some ⟨wb.heap.size, 0, none⟩) 0 0) 0 [] from by simpa using own_empty wb 3)
    have HNEWS := Lib.hid (HINT.out.keep ((Fr.refl [] wb).alloc (.cells #[] 3))).news
    have HNONE := Lib.hid (HINT.out.none HNL.out)
    have HIB2 := Lib.hid (((Fr.refl [] wb).alloc (.cells #[] 3)).obj HIB.out (by simp))
    go_wp2_with (at_builtin; refine wpList_appS _ rfl _ _ 41 rfl wb.heap.size 3 (.int .i64 0) 1 8 Try.underlying41 infoI1 rfl (by decide) (.slice (some ⟨wb.heap.size, 0, none⟩) 0 0) 0 [] rfl HOWN.out la _ lc (labs.map (Value.int .i64)) rfl (by simp) HNEWS.out HNONE.out (ints_one labs) (by have := HLL.out; unfold maxLen; omega) (by have := HLL.out; omega) (by simp) ?_; intro v' w1' happ; have hown2 : w1'.ownsRow wb.heap.size 3 1 v' labs.length (labs.map (Value.int .i64)) := (by simpa using happ.own); have hf1' := app_fr happ; have ho1' := hf1'.obj HIB2.out (by simp [Value.ownBlock]; omega); obtain ⟨a1, c1, e1⟩ := own_slice hown2; subst e1; have xf := frozen_of_row w1' _ 2 _ _ ho1'; have x2 := cell_of_row w1' _ 2 _ _ _ ho1'; have HA := Lib.hid happ; have HO2 := Lib.hid hown2; have HOI := Lib.hid ho1'; have HFF := Lib.hid hf1'; clear happ hown2 hf1' ho1')
    go_meet
    refine ⟨a1, c1, ?_, ?_, ?_⟩
    · rw [heap_setCell_same w1' ib 2 _ _ _ HOI.out]
      rfl
    · exact own_fr HO2.out ((Fr.refl [ib] w1').setCell (by simp) _) (by intro i hi; have h5 := (own_lt HO2.out hi).1; simp; omega)
    · refine (Fr.next (S := [ib]) (((Fr.refl [ib] wb).alloc _)) HFF.out (by intro i hi hlt; simp [Value.ownBlock] at hi; omega)).setCell (by simp) _
  case rest =>
    obtain ⟨la2, lc2, hin, ho, hfr⟩ := hcut
    clear y2
    have HIN := Lib.hid hin
    have HOW := Lib.hid ho
    have HNE := Lib.hid (show ∀ i, (Value.slice la2 labs.length lc2).ownBlock = some i → wb.heap.size ≤ i from fun i hi => (own_lt ho hi).1)
    have HFRC := Lib.hid hfr
    have HFC := Lib.hid ((HF1.out.trans HFB.out).next hfr (by intro i hi hlt; simp at hi; have := HW1.out; omega))
    have HOC := Lib.hid (hfr.obj HOB.out (by simp; omega))
    have HIC := Lib.hid (ints_own_ ho)
    obtain ⟨i0, i1, i2⟩ := three hin
    obtain ⟨o0, o1, o2⟩ := three HOC.out
    clear hin ho hfr
    cases hfin : noFine rl pp labs
    · have HFIN := Lib.hid hfin
      clear hfin
      go_wp2_with fail
      refine (PutNo_any wc rl pp la2 lc2 labs HIC.out HL2).mono ?_
      intro e w2 hp
      rw [noBad, HFIN.out] at hp
      obtain ⟨rfl, hf2⟩ : e = .returned (.tuple #[.slice none 0 0, .int .i64 41]) ∧ Fr [] wc w2 := by
        rcases hp.get with ⟨_, h⟩ | ⟨hx, _⟩
        · exact h
        · cases hx
      have HF2 := Lib.hid (HFC.out.trans hf2)
      have HOC2 := Lib.hid (hf2.obj HOC.out (by simp))
      have HIN2 := Lib.hid (hf2.obj HIN.out (by simp))
      have HIC2 := Lib.hid (HIC.out.keep hf2)
      clear hp i0 i1 i2 o0 o1 o2 hf2
      obtain ⟨o0, o1, o2⟩ := three HOC2.out
      go_wp2_with fail
      refine (refPutNo_any rl pp la lc labs w2 HL2 (HI.out.keep HF2.out)).mono ?_
      intro e w3 hp3
      rcases hp3 with ⟨hx, _⟩ | ⟨_, v, rfl, hv⟩
      · rw [HFIN.out] at hx; cases hx
      have HF3 := Lib.hid (HF2.out.trans hv.fr)
      have HOC3 := Lib.hid (hv.fr.obj HOC2.out (by simp))
      have HIN3 := Lib.hid (hv.fr.obj HIN2.out (by simp))
      have HIC3 := Lib.hid (HIC2.out.keep hv.fr)
      obtain ⟨g, cap, rfl, _, _, hbv, _⟩ := hv.bytes
      have HS := Lib.hid (same_any none (some ⟨g, 0, none⟩) 0 cap [] [] w3 (fun _ => rfl) (fun h => by cases h) (Bytes.nil _ _) hbv)
      clear hv hbv o0 o1 o2
      obtain ⟨i0, i1, i2⟩ := three HIN3.out
      obtain ⟨o0, o1, o2⟩ := three HOC3.out
      go_wp2_with fail
      refine HS.out.mono ?_
      rintro e w4 ⟨rfl, rfl⟩
      go_wp2_with fail
      refine (sameNode12_eq rl pp la2 la lc2 lc labs w3 HL2 HIC3.out (HI.out.keep HF3.out)).mono ?_
      rintro e w5 ⟨rfl, hf5⟩
      have HF5 := Lib.hid (HF3.out.trans hf5)
      clear hf5 i0 i1 i2 o0 o1 o2
      go_wp2
      go_ret
      exact ⟨rfl, HF5.out⟩
    · have HFIN := Lib.hid hfin
      have HOKB := Lib.hid (noOk_noB hfin)
      have HNM := Lib.hid (no_nm hfin)
      have HLB := Lib.hid (show (noB rl pp labs).length = 16 from noB_length (labFine_bd (noFine_bd hfin).2.2).2)
      clear hfin
      obtain ⟨l, hl⟩ : ∃ l, l = noB rl pp labs := ⟨_, rfl⟩
      have HLQ := Lib.hid hl
      clear hl
      go_wp2_with fail
      refine (PutNo_any wc rl pp la2 lc2 labs HIC.out HL2).mono ?_
      intro e w2 hp
      rw [noBad, HFIN.out, noU_B HFIN.out, ← HLQ.out] at hp
      rcases hp.get with ⟨hx, _⟩ | ⟨_, v, rfl, hv⟩
      · cases hx
      have HF2 := Lib.hid (HFC.out.trans hv.fr)
      have HOC2 := Lib.hid (hv.fr.obj HOC.out (by simp))
      have HIN2 := Lib.hid (hv.fr.obj HIN.out (by simp))
      have HIC2 := Lib.hid (HIC.out.keep hv.fr)
      obtain ⟨g, cap, rfl, _, _, hbv, _⟩ := hv.bytes
      have HV := Lib.hid hbv
      clear hp i0 i1 i2 o0 o1 o2 hv hbv
      obtain ⟨o0, o1, o2⟩ := three HOC2.out
      go_wp2_with fail
      refine (refPutNo_any rl pp la lc labs w2 HL2 (HI.out.keep HF2.out)).mono ?_
      intro e w3 hp3
      rcases hp3 with ⟨_, v, rfl, hv⟩ | ⟨hx, _⟩
      rotate_left
      · rw [HFIN.out] at hx; cases hx
      rw [← HLQ.out] at hv
      have HF3 := Lib.hid (HF2.out.trans hv.fr)
      have HOC3 := Lib.hid (hv.fr.obj HOC2.out (by simp))
      have HIN3 := Lib.hid (hv.fr.obj HIN2.out (by simp))
      have HIC3 := Lib.hid (HIC2.out.keep hv.fr)
      have HV3 := Lib.hid (HV.out.keep hv.fr)
      obtain ⟨g', cap', rfl, _, _, hbv, _⟩ := hv.bytes
      have hs := same_any (some ⟨g, 0, none⟩) (some ⟨g', 0, none⟩) cap cap' l l w3 (fun h => by cases h) (fun h => by cases h) HV3.out hbv
      rw [beq_self_eq_true] at hs
      have HS := Lib.hid hs
      clear hv hbv o0 o1 o2 hs
      obtain ⟨i0, i1, i2⟩ := three HIN3.out
      obtain ⟨o0, o1, o2⟩ := three HOC3.out
      go_wp2_with fail
      refine HS.out.mono ?_
      rintro e w4 ⟨rfl, rfl⟩
      go_wp2_with fail
      refine (sameNode12_eq rl pp la2 la lc2 lc labs w3 HL2 HIC3.out (HI.out.keep HF3.out)).mono ?_
      rintro e w5 ⟨rfl, hf5⟩
      have HF5 := Lib.hid (HF3.out.trans hf5)
      have HOC5 := Lib.hid (hf5.obj HOC3.out (by simp))
      have HV5 := Lib.hid (HV3.out.keep hf5)
      clear hf5 i0 i1 i2 o0 o1 o2
      go_wp2_with fail
      refine (GetNo_any w5 (some ⟨g, 0, none⟩) cap l HV5.out).mono ?_
      rintro e w6 ⟨x, rfl, la6, lc6, rfl, ho6, hf6⟩
      have he0 : errNo l = 0 := errNo_ok (by rw [HLQ.out]; exact HLB.out) (by rw [HLQ.out]; exact HOKB.out.1)
      have hv0 : valNo l = (rl, pp, labs) := by rw [valNo_ok he0, HLQ.out, HOKB.out.2, HNM.out.1, HNM.out.2.1]
      rw [he0, hv0]
      rw [hv0] at ho6
      simp only at ho6 ⊢
      obtain ⟨w7, hw7⟩ : ∃ w7, w7 = w6.alloc (.cells #[.int .i64 rl, .int .i64 pp, .slice la6 labs.length lc6] 43) := ⟨_, rfl⟩
      have hf7 : Fr [] w6 w7 := by rw [hw7]; exact (Fr.refl _ _).alloc _
      have HF7 := Lib.hid (HF5.out.trans (hf6.trans hf7))
      have HIX := Lib.hid ((ints_own_ ho6).keep hf7)
      have HOC6 := Lib.hid (hf6.obj HOC5.out (by simp))
      have hlt6 := (Array.getElem?_eq_some_iff.1 HOC6.out).1
      have HW7 := Lib.hid hw7
      clear he0 hv0 ho6 hf6 hf7 hw7
      obtain ⟨o0, o1, o2⟩ := three HOC6.out
      go_wp2_with fail
      rw [← HW7.out]
      refine (sameNode12_eq rl pp la6 la lc6 lc labs w7 HL2 HIX.out (HI.out.keep HF7.out)).mono ?_
      rintro e w8 ⟨rfl, hf8⟩
      have HF8 := Lib.hid (HF7.out.trans hf8)
      clear hf8 o0 o1 o2
      go_wp2
      go_ret
      exact ⟨rfl, HF8.out⟩
end Go.Proofs.Ytbhmfbhfofgfaaa
