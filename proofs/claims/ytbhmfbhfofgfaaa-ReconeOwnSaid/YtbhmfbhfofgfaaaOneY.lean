/- The walk of ReconeOwn. -/
import Derived.Test.YtbhmfbhfofgfaaaOneX
import Derived.Test.YtbhmfbhfofgfaaaSpoil
namespace Go.Proofs.Ytbhmfbhfofgfaaa
open Go.RowKit
attribute [local go_sem ↓] Go.wp_at_zero Go.wp_at_succ
/-- the bytes that are written (none where the node is refused) -/
def noL (rl pp : Int) (L : List Int) : List UInt8 := if noFine rl pp L then noB rl pp L else []
theorem PutNo_gen (w : World) (rl pp : Int) (a : Option Addr) (c : Nat) (L : List Int) (hI : Ints w a L) (hL : L.length ≤ 140737488351300) :
    Calls Try.prog 17 #[.agg #[.int .i64 rl, .int .i64 pp, .slice a L.length c]] w fun e w' => ∃ a' c' x, e = .returned (.tuple #[.slice a' (noL rl pp L).length c', x]) ∧ w'.ownsRow w.heap.size 5 1 (.slice a' (noL rl pp L).length c') (noL rl pp L).length ((noL rl pp L).map B8) ∧ Fr [] w w' := by
  refine (PutNo_any w rl pp a c L hI hL).mono ?_
  intro e w' hp
  rw [noBad] at hp
  unfold noL
  cases hf : noFine rl pp L
  · rw [hf] at hp
    rcases hp.get with ⟨_, rfl, h⟩ | ⟨hx, _⟩
    · exact ⟨none, 0, _, rfl, World.ownsRow_nil _ _ _ _, h⟩
    · cases hx
  · rw [hf, noU_B hf] at hp
    rcases hp.get with ⟨hx, _⟩ | ⟨_, v, rfl, h⟩
    · cases hx
    · obtain ⟨g, cap, rfl, _, _, ho, hfr⟩ := h
      exact ⟨_, _, _, rfl, ho, hfr⟩
theorem refPutNo_gen (w : World) (rl pp : Int) (a : Option Addr) (c : Nat) (L : List Int) (hI : Ints w a L) (hL : L.length ≤ 140737488351300) :
    Calls Try.prog 18 #[.agg #[.int .i64 rl, .int .i64 pp, .slice a L.length c]] w fun e w' => ∃ g c' x, e = .returned (.tuple #[.slice (some ⟨g, 0, none⟩) (noL rl pp L).length c', x]) ∧ Bytes w' (some ⟨g, 0, none⟩) (noL rl pp L) ∧ w.heap.size ≤ g ∧ g < w'.heap.size ∧ Fr [] w w' := by
  refine (refPutNo_any rl pp a c L w hL hI).mono ?_
  intro e w' hp
  unfold noL
  rcases hp with ⟨hf, v, rfl, h⟩ | ⟨hf, v, rfl, h⟩
  · obtain ⟨g, cap, rfl, h1, h2, h3, h4⟩ := h.bytes
    rw [if_pos hf]
    exact ⟨_, _, _, rfl, h3, h1, h2, h4⟩
  · obtain ⟨g, cap, rfl, h1, h2, h3, h4⟩ := h.bytes
    rw [if_neg (by rw [hf]; simp)]
    exact ⟨_, _, _, rfl, h3, h1, h2, h4⟩
set_option maxRecDepth 100000 in
set_option maxHeartbeats 6400000 in
theorem reconeOwn_walk (rl pp : Int) (la : Option Addr) (lc : Nat) (labs : List Int) (w : World) (hll : labs.length ≤ 17592186044000) (hnl : la = none → lc = 0) (hi : Ints w la labs) :
    Calls Try.prog 9 #[.agg #[.int .i64 rl, .int .i64 pp, .slice la labs.length lc]] w fun e w' => e = .returned (.bool true) ∧ Fr [] w w' := by
  have HLL := Lib.hid hll
  have HL2 : labs.length ≤ 140737488351300 := by omega
  have HNL := Lib.hid hnl
  have HI := Lib.hid hi
  clear hll hnl hi
  obtain ⟨LW, hLW⟩ : ∃ LW, LW = noL rl pp labs := ⟨_, rfl⟩
  have HLW := Lib.hid hLW
  have HLWL := Lib.hid (show LW.length ≤ 16 by
    rw [hLW]; unfold noL
    split
    · rename_i h; exact Nat.le_of_eq (noB_length (labFine_bd (noFine_bd h).2.2).2)
    · simp)
  clear hLW
  go_enter Try.func9, Try.ntmps9
  go_wp2_with fail
  obtain ⟨wa, hwa⟩ : ∃ wa, wa = w.alloc (.cells #[.int .i64 rl, .int .i64 pp, .slice la labs.length lc] 43) := ⟨_, rfl⟩
  rw [← hwa]
  have hfa : Fr [] w wa := by rw [hwa]; exact (Fr.refl _ _).alloc _
  have hba : wa.heap[w.heap.size]? = some (.cells #[.int .i64 rl, .int .i64 pp, .slice la labs.length lc] 43) := by rw [hwa]; exact heap_alloc_new w _
  clear hwa
  refine (speaks12 wa).mono ?_
  rintro e w0 ⟨rfl, hf1⟩
  have hb1 := hf1.obj hba (by simp)
  have HO0 := Lib.hid hb1
  have HF0 := Lib.hid (hfa.trans hf1)
  obtain ⟨x0, x1, x2⟩ := three hb1
  clear hfa hba hf1 hb1
  go_wp2_with fail
  refine (refPutNo_gen w0 rl pp la lc labs (HI.out.keep HF0.out) HL2).mono ?_
  rintro e w1 ⟨gw, cw, ew, rfl, hbw, hgw0, hgw1, hfw⟩
  rw [← HLW.out] at hbw ⊢
  have HBW := Lib.hid hbw
  have HO1 := Lib.hid (hfw.obj HO0.out (by simp))
  have HF1 := Lib.hid (HF0.out.trans hfw)
  have HW1 := Lib.hid HF1.out.size
  have HGW := Lib.hid hgw1
  clear x0 x1 x2 hbw hfw hgw0 hgw1
  obtain ⟨x0, x1, x2⟩ := three HO1.out
  go_upto_region 5 with fail
  obtain ⟨wb, hwb⟩ : ∃ wb, wb = w1.alloc (.cells #[.int .i64 rl, .int .i64 pp, .slice la labs.length lc] 43) := ⟨_, rfl⟩
  rw [← hwb]
  have hfb : Fr [] w1 wb := by rw [hwb]; exact (Fr.refl _ _).alloc _
  have hib : wb.heap[w1.heap.size]? = some (.cells #[.int .i64 rl, .int .i64 pp, .slice la labs.length lc] 43) := by rw [hwb]; exact heap_alloc_new w1 _
  have HFB := Lib.hid hfb
  have HIB := Lib.hid hib
  have hob := hfb.obj HO1.out (by simp)
  have HOB := Lib.hid hob
  have hlt1 := (Array.getElem?_eq_some_iff.1 HO1.out).1
  have hltO := (Array.getElem?_eq_some_iff.1 hob).1
  have hltb := (Array.getElem?_eq_some_iff.1 hib).1
  have y2 := cell_of_row wb _ 2 _ _ _ hob
  have HINT := Lib.hid (HI.out.keep (HF1.out.trans hfb))
  clear hwb hfb hib hob x0 x1 x2
  generalize hib0 : w1.heap.size = ib at HIB hlt1 hltb ⊢
  have HIBS := Lib.hid (show w1.heap.size ≤ ib from Nat.le_of_eq hib0)
  clear hib0
  go_cut [] (fun wx => ∃ (la2 : Option Addr) (lc2 : Nat), wx.heap[ib]? = some (.cells #[.int .i64 rl, .int .i64 pp, .slice la2 labs.length lc2] 43) ∧ wx.ownsRow wb.heap.size 3 1 (.slice la2 labs.length lc2) labs.length (labs.map (Value.int .i64)) ∧ Fr [ib] wb wx)
  case first =>
    have HOWN := Lib.hid (show (wb.alloc (.cells #[] 3)).ownsRow wb.heap.size 3 1 (.slice (some ⟨wb.heap.size, 0, none⟩) 0 0) 0 [] from by simpa using own_empty wb 3)
    have HNEWS := Lib.hid (HINT.out.keep ((Fr.refl [] wb).alloc (.cells #[] 3))).news
    have HNONE := Lib.hid (HINT.out.none HNL.out)
    have HIB2 := Lib.hid (((Fr.refl [] wb).alloc (.cells #[] 3)).obj HIB.out (by simp))
    go_wp2_with (at_builtin; refine wpList_appS _ rfl _ _ 41 rfl wb.heap.size 3 (.int .i64 0) 1 8 Try.underlying41 infoI1 rfl (by decide) (.slice (some ⟨wb.heap.size, 0, none⟩) 0 0) 0 [] rfl HOWN.out la _ lc (labs.map (Value.int .i64)) rfl (by simp) HNEWS.out HNONE.out (ints_one labs) (by have := HLL.out; unfold maxLen; omega) (by have := HLL.out; omega) (by simp) ?_; intro v' w1' happ; have hown2 : w1'.ownsRow wb.heap.size 3 1 v' labs.length (labs.map (Value.int .i64)) := (by simpa using happ.own); have hf1' := app_fr happ; have ho1' := hf1'.obj HIB2.out (by simp [Value.ownBlock]; omega); obtain ⟨a1, c1, e1⟩ := own_slice hown2; subst e1; have xf := frozen_of_row w1' _ 2 _ _ ho1'; have x2 := cell_of_row w1' _ 2 _ _ _ ho1'; have HA := Lib.hid happ; have HO2 := Lib.hid hown2; have HOI := Lib.hid ho1'; have HFF := Lib.hid hf1'; clear happ hown2 hf1' ho1')
    go_meet
    refine ⟨a1, c1, ?_, ?_, ?_⟩
    · rw [heap_setCell_same w1' ib 2 _ _ _ HOI.out]
      rfl
    · exact own_fr HO2.out ((Fr.refl [ib] w1').setCell (by simp) _) (by intro i hi; have h5 := (own_lt HO2.out hi).1; simp; omega)
    · refine (Fr.next (S := [ib]) (((Fr.refl [ib] wb).alloc _)) HFF.out (by intro i hi hlt; simp [Value.ownBlock] at hi; omega)).setCell (by simp) _
  case rest =>
    obtain ⟨la2, lc2, hin, ho, hfr⟩ := hcut
    clear y2
    have HIN := Lib.hid hin
    have HOW := Lib.hid ho
    have HNE := Lib.hid (show ∀ i, (Value.slice la2 labs.length lc2).ownBlock = some i → wb.heap.size ≤ i from fun i hi => (own_lt ho hi).1)
    have HFRC := Lib.hid hfr
    have HFC := Lib.hid ((HF1.out.trans HFB.out).next hfr (by intro i hi hlt; simp at hi; have := HW1.out; omega))
    have HOC := Lib.hid (hfr.obj HOB.out (by simp; omega))
    have HIC := Lib.hid (ints_own_ ho)
    obtain ⟨i0, i1, i2⟩ := three hin
    obtain ⟨o0, o1, o2⟩ := three HOC.out
    clear hin ho hfr
    have HIBW := Lib.hid (show w1.heap.size ≤ ib from HIBS.out)
    have HBW2 := Lib.hid ((HBW.out.keep HFB.out).fr HFRC.out (.inr fun ad e => by cases e; have := HGW.out; have := HIBW.out; simp; omega))
    have HORG := Lib.hid (show w.heap.size < wc.heap.size from (Array.getElem?_eq_some_iff.1 HOC.out).1)
    have HGW2 := Lib.hid (show gw < wc.heap.size from Nat.lt_of_lt_of_le HGW.out (Nat.le_trans HFB.out.size HFRC.out.size))
    go_wp2_with fail
    refine (PutNo_gen wc rl pp la2 lc2 labs HIC.out HL2).mono ?_
    rintro e w2 ⟨aa, ca, ea, rfl, hoa, hf2⟩
    rw [← HLW.out] at hoa ⊢
    have HOA := Lib.hid hoa
    have HBA := Lib.hid (show ∀ i, (Value.slice aa LW.length ca).ownBlock = some i → wc.heap.size ≤ i ∧ i < w2.heap.size from fun i hi => own_lt hoa hi)
    have HF2 := Lib.hid hf2
    have HIN2 := Lib.hid (hf2.obj HIN.out (by simp))
    have HIC2 := Lib.hid (HIC.out.keep hf2)
    clear hoa hf2 i0 i1 i2 o0 o1 o2
    obtain ⟨i0, i1, i2⟩ := three HIN2.out
    go_wp2_with fail
    refine (PutNo_gen w2 rl pp la2 lc2 labs HIC2.out HL2).mono ?_
    rintro e w3 ⟨ab, cb, eb, rfl, hob, hf3⟩
    rw [← HLW.out] at hob ⊢
    have HOB3 := Lib.hid hob
    have HBB := Lib.hid (show ∀ i, (Value.slice ab LW.length cb).ownBlock = some i → w2.heap.size ≤ i ∧ i < w3.heap.size from fun i hi => own_lt hob hi)
    have HF3 := Lib.hid hf3
    have HFW3 := Lib.hid (HFC.out.trans (HF2.out.trans hf3))
    have HA3 := Lib.hid (show OwnB w3 wc.heap.size (Value.slice aa LW.length ca) LW.length from OwnB.of (own_fr HOA.out hf3 (by simp)))
    have HBW3 := Lib.hid (HBW2.out.keep (HF2.out.trans hf3))
    have HO3 := Lib.hid ((HF2.out.trans hf3).obj HOC.out (by simp))
    clear hob hf3 i0 i1 i2
    go_wp2_with fail
    have hLW16 := HLWL.out
    -- a is written over
    go_loopw [10, 42] (fun _ i wr => ∃ k : Nat, k ≤ LW.length ∧ i = .int .i64 k ∧ OwnB wr wc.heap.size (Value.slice aa LW.length ca) LW.length ∧ Fr (Value.slice aa LW.length ca).ownBlock.toList w3 wr) (fun _ i _ => LW.length - (intOf i).toNat)
    case atStart => exact ⟨0, by omega, rfl, HA3.out, Fr.refl _ _⟩
    case round =>
      obtain ⟨k, hk, rfl, hoB, hfr⟩ := hrel
      have HOK := Lib.hid hoB
      have HFK := Lib.hid hfr
      by_cases hlt : k < LW.length
      · obtain ⟨g, rfl, _, _⟩ := hoB.addr (by omega)
        obtain ⟨⟨y, hy⟩, hyf⟩ := hoB.cell hlt
        have HS := Lib.hid (hoB.setN k 238 (by decide))
        clear hoB hfr
        go_wp2_with fail
        go_roundw
        case rel => exact ⟨k + 1, by omega, by go_num, HS.out, HFK.out.setCell (by simp [Value.ownBlock]) _⟩
        case measure => simp [intOf] <;> omega
      · clear hoB hfr
        obtain ⟨lA, hlA, hoA⟩ := HOK.out
        have HLA := Lib.hid hlA
        have hb2 : Bytes (wr.alloc (.cells #[.int .u8 238, .int .u8 238] 5)) (some ⟨wr.heap.size, 0, none⟩) [238, 238] := Bytes.new [238, 238] rfl (by simp only [List.map_cons, List.map_nil, B8]; rw [show I8 238 = 238 by decide +kernel])
        have HB2 := Lib.hid hb2
        have HOA2 := Lib.hid (show (wr.alloc (.cells #[.int .u8 238, .int .u8 238] 5)).ownsRow wc.heap.size 5 1 (Value.slice aa LW.length ca) lA.length (lA.map B8) by rw [hlA]; exact World.ownsRow.alloc hoA _)
        have hsz3 : w3.heap.size ≤ wr.heap.size := HFK.out.size
        have HSZC := Lib.hid (show wc.heap.size ≤ w3.heap.size from Nat.le_trans HF2.out.size HF3.out.size)
        clear hlA hoA hb2
        go_upto_region 14 with (at_builtin; refine wpList_apB _ rfl _ _ 27 rfl wc.heap.size 5 Try.underlying27 info8 (Value.slice aa LW.length ca) lA rfl HOA2.out (some ⟨wr.heap.size, 0, none⟩) 2 2 [238, 238] rfl rfl HB2.out (fun h => by cases h) (by have := HLA.out; have := HLWL.out; omega) (by have := HSZC.out; simp; omega) ?_; intro v' w4 happ; have hfr4 := (HFK.out.alloc (.cells #[.int .u8 238, .int .u8 238] 5)).next happ.fr (by intro i hi _; exact hi); have HF4 := Lib.hid hfr4; clear happ hfr4)
        have HA4 := Lib.hid (show ∀ i, i < wc.heap.size ∨ w2.heap.size ≤ i → i ∉ (Value.slice aa LW.length ca).ownBlock.toList from fun i h hm => by have := HBA.out i (mem_blk hm); omega)
        have hbB := (own_fr HOB3.out HF4.out (fun i hi => HA4.out i (.inr (HBB.out i hi).1)))
        have HB4 := Lib.hid hbB
        have HW4 := Lib.hid (HBW3.out.fr HF4.out (.inr fun ad e => by cases e; exact HA4.out _ (.inl HGW2.out)))
        have HO4 := Lib.hid (HF4.out.obj HO3.out (HA4.out _ (.inl HORG.out)))
        have HFW4 := Lib.hid (HFW3.out.next HF4.out (fun i hi hlt => absurd hi (HA4.out i (.inl (Nat.lt_trans hlt HORG.out)))))
        have hs := same_any ab (some ⟨gw, 0, none⟩) cb cw LW LW w4 (spl_none hbB) (fun h => by cases h) (by obtain ⟨_, _, e, h, _⟩ := Bytes.of_own hbB; simp only [Value.slice.injEq] at e; obtain ⟨rfl, _, rfl⟩ := e; exact h) HW4.out
        rw [beq_self_eq_true] at hs
        have HS4 := Lib.hid hs
        have HSZ4 := Lib.hid HF4.out.size
        clear hbB hs hsz3
        go_wp2_with fail
        refine HS4.out.mono ?_
        rintro e w' ⟨rfl, rfl⟩
        have hbyB : Bytes w4 ab LW := by obtain ⟨_, _, e, h, _⟩ := Bytes.of_own HB4.out; simp only [Value.slice.injEq] at e; obtain ⟨rfl, _, rfl⟩ := e; exact h
        have HBYB := Lib.hid hbyB
        clear hbyB
        obtain ⟨r, hr⟩ : ∃ r, r = valNo LW := ⟨_, rfl⟩
        have HR := Lib.hid hr
        have HRL := Lib.hid (show r.2.2.length ≤ 100 by rw [hr]; exact valNo_len LW)
        clear hr
        obtain ⟨z1, z2, L⟩ := r
        go_wp2_with fail
        refine (GetNo_any w4 ab cb LW HBYB.out).mono ?_
        rintro e w5 ⟨x, rfl, lx, cx, rfl, ho5, hf5⟩
        rw [← HR.out] at ho5 ⊢
        simp only at ho5 ⊢
        have HOX5 := Lib.hid ho5
        have HBX := Lib.hid (show ∀ i, (Value.slice lx L.length cx).ownBlock = some i → w4.heap.size ≤ i ∧ i < w5.heap.size from fun i hi => own_lt ho5 hi)
        have HF5 := Lib.hid hf5
        clear ho5 hf5
        go_wp2_with fail
        obtain ⟨w6, hw6⟩ : ∃ w6, w6 = w5.alloc (.cells #[.int .i64 z1, .int .i64 z2, .slice lx L.length cx] 43) := ⟨_, rfl⟩
        rw [← hw6]
        have HF6 := Lib.hid (show Fr [] w5 w6 by rw [hw6]; exact (Fr.refl _ _).alloc _)
        have HX6 := Lib.hid (show w6.heap[w5.heap.size]? = some (.cells #[.int .i64 z1, .int .i64 z2, .slice lx L.length cx] 43) by rw [hw6]; exact heap_alloc_new w5 _)
        have HSZ6 := Lib.hid (show w6.heap.size = w5.heap.size + 1 by rw [hw6]; simp)
        clear hw6
        refine (GetNo_any w6 ab cb LW (HBYB.out.keep (HF5.out.trans HF6.out))).mono ?_
        rintro e w7 ⟨x, rfl, ly, cy, rfl, ho7, hf7⟩
        rw [← HR.out] at ho7 ⊢
        simp only at ho7 ⊢
        obtain ⟨w8, hw8⟩ : ∃ w8, w8 = w7.alloc (.cells #[.int .i64 z1, .int .i64 z2, .slice ly L.length cy] 43) := ⟨_, rfl⟩
        have hg8 : Fr [] w7 w8 := by rw [hw8]; exact (Fr.refl _ _).alloc _
        have HF8 := Lib.hid (HF5.out.trans (HF6.out.trans (hf7.trans hg8)))
        have HY8 := Lib.hid (show w8.heap[w7.heap.size]? = some (.cells #[.int .i64 z1, .int .i64 z2, .slice ly L.length cy] 43) by rw [hw8]; exact heap_alloc_new w7 _)
        have HX8 := Lib.hid ((hf7.trans hg8).obj HX6.out (by simp))
        have HIY8 := Lib.hid (own_fr ho7 hg8 (by simp))
        have HBY := Lib.hid (show ∀ i, (Value.slice ly L.length cy).ownBlock = some i → w6.heap.size ≤ i ∧ i < w7.heap.size from fun i hi => own_lt ho7 hi)
        have HOX8 := Lib.hid (show OwnI w8 w4.heap.size (.slice lx L.length cx) L.length from OwnI.of (own_fr HOX5.out (HF6.out.trans (hf7.trans hg8)) (by simp)))
        have HSZ7 := Lib.hid (show w6.heap.size ≤ w7.heap.size from hf7.size)
        have HB8 := Lib.hid (own_fr HB4.out HF8.out (by simp))
        have HW8 := Lib.hid (HW4.out.keep HF8.out)
        have HO8 := Lib.hid (HF8.out.obj HO4.out (by simp))
        have HFW8 := Lib.hid (HFW4.out.trans HF8.out)
        have HSZ3 := Lib.hid (show w3.heap.size ≤ w4.heap.size from HF4.out.size)
        obtain ⟨x0, x1, x2⟩ := three HX8.out
        rw [hw8] at x0 x1 x2
        have hltx : w5.heap.size < w7.heap.size := by have := HSZ6.out; have := HSZ7.out; omega
        have HW8' := Lib.hid hw8
        clear hw8 hg8 ho7 hf7
        go_wp2_with fail
        rw [← HW8'.out]
        clear x0 x1 x2
        have hL100 : L.length ≤ 100 := HRL.out
        -- x's labels are written over
        go_loopw [15, 69] (fun _ i wr => ∃ k : Nat, k ≤ L.length ∧ i = .int .i64 k ∧ OwnI wr w4.heap.size (.slice lx L.length cx) L.length ∧ Fr (Value.slice lx L.length cx).ownBlock.toList w8 wr) (fun _ i _ => L.length - (intOf i).toNat)
        case atStart => exact ⟨0, by omega, rfl, HOX8.out, Fr.refl _ _⟩
        case round =>
          obtain ⟨k2, hk2, rfl, hoX, hfr2⟩ := hrel
          have HOK2 := Lib.hid hoX
          have HFK2 := Lib.hid hfr2
          have HXR := Lib.hid (hfr2.obj HX8.out (by intro hm; have := HBX.out _ (mem_blk hm); omega))
          have x2 := cell_of_row wr _ 2 _ _ _ HXR.out
          have xf2 := frozen_of_row wr _ 2 _ _ HXR.out
          by_cases hlt2 : k2 < L.length
          · obtain ⟨g, rfl, _, _⟩ := hoX.addr (by omega)
            obtain ⟨⟨y, hy⟩, hyf⟩ := hoX.cell hlt2
            have HS := Lib.hid (hoX.set k2 (-7))
            clear hoX hfr2
            go_wp2_with fail
            go_roundw
            case rel => exact ⟨k2 + 1, by omega, by go_num, HS.out, HFK2.out.setCell (by simp [Value.ownBlock]) _⟩
            case measure => simp [intOf] <;> omega
          · clear hoX hfr2
            obtain ⟨lX, hlX, hoX⟩ := HOK2.out
            have HLX := Lib.hid hlX
            have HNW := Lib.hid (news_one (w := wr) (v := .int .i64 (-7)) (T := 3) (g := wr.heap.size) rfl)
            have HOX2 := Lib.hid (show (wr.alloc (.cells #[.int .i64 (-7)] 3)).ownsRow w4.heap.size 3 1 (Value.slice lx L.length cx) lX.length (lX.map (Value.int .i64)) by rw [hlX]; exact World.ownsRow.alloc hoX _)
            have HXR2 := Lib.hid (((Fr.refl [] wr).alloc (.cells #[.int .i64 (-7)] 3)).obj HXR.out (by simp))
            have HSZK := Lib.hid (show w4.heap.size ≤ wr.heap.size from Nat.le_trans HF8.out.size HFK2.out.size)
            have HXN := Lib.hid (show w5.heap.size ∉ (Value.slice lx L.length cx).ownBlock.toList from by intro hm; have := HBX.out _ (mem_blk hm); omega)
            clear hlX hoX
            go_upto_region 24 with (at_builtin; refine wpList_appS _ rfl _ _ 41 rfl w4.heap.size 3 (.int .i64 0) 1 8 Try.underlying41 infoI1 rfl (by decide) (Value.slice lx L.length cx) lX.length (lX.map (Value.int .i64)) rfl HOX2.out (some ⟨wr.heap.size, 0, none⟩) 1 1 [.int .i64 (-7)] rfl rfl HNW.out (fun h => by cases h) (by simp [Value.oneCell']) (by have := HLX.out; unfold maxLen; omega) (by have := HLX.out; omega) (by have := HSZK.out; simp; omega) ?_; intro v' w9 happ; obtain ⟨a9, c9, e9⟩ := own_slice happ.own; subst e9; have hr9 := (app_fr happ).obj HXR2.out HXN.out; have x2 := cell_of_row w9 _ 2 _ _ _ hr9; have xf2 := frozen_of_row w9 _ 2 _ _ hr9; have HF9 := Lib.hid ((HFK2.out.alloc (.cells #[.int .i64 (-7)] 3)).trans (app_fr happ)); clear happ hr9)
            obtain ⟨w10, hw10⟩ : ∃ w10, w10 = w9.setCell ⟨w5.heap.size, 2, none⟩ (.slice a9 (lX.length + 1) c9) := ⟨_, rfl⟩
            rw [← hw10]
            have HF10 := Lib.hid (show Fr ((Value.slice lx L.length cx).ownBlock.toList ++ [w5.heap.size]) w8 w10 by
              rw [hw10]
              exact (HF9.out.mono (fun k hk _ => List.mem_append.2 (.inl hk))).setCell (by simp) _)
            clear hw10 x2 xf2
            have HN10 := Lib.hid (show ∀ i, i < w4.heap.size ∨ w6.heap.size ≤ i → i ∉ ((Value.slice lx L.length cx).ownBlock.toList ++ [w5.heap.size]) from fun i h hm => by
              have h6 := HSZ6.out
              rcases List.mem_append.1 hm with hm | hm
              · have := HBX.out i (mem_blk hm); omega
              · have h5 : i = w5.heap.size := by simpa using hm
                have h4 : w4.heap.size ≤ w5.heap.size := HF5.out.size
                omega)
            have HB10 := Lib.hid (show OwnB w10 w2.heap.size (Value.slice ab LW.length cb) LW.length from OwnB.of (own_fr HB8.out HF10.out (fun i hi => HN10.out i (.inl (Nat.lt_of_lt_of_le (HBB.out i hi).2 HSZ3.out)))))
            have HO10 := Lib.hid (HF10.out.obj HO8.out (HN10.out _ (.inl (by have := HORG.out; have := HSZC.out; have := HSZ3.out; omega))))
            have HY10 := Lib.hid (HF10.out.obj HY8.out (HN10.out _ (.inr HSZ7.out)))
            have HIY10 := Lib.hid (own_fr HIY8.out HF10.out (fun i hi => HN10.out i (.inr (HBY.out i hi).1)))
            have HFW10 := Lib.hid (HFW8.out.next HF10.out (fun i hi hlt => absurd hi (HN10.out i (.inl (by have := HORG.out; have := HSZC.out; have := HSZ3.out; omega)))))
            go_wp2_with fail
            go_loopw [16, 84] (fun _ i wr => ∃ k : Nat, k ≤ LW.length ∧ i = .int .i64 k ∧ OwnB wr w2.heap.size (Value.slice ab LW.length cb) LW.length ∧ Fr (Value.slice ab LW.length cb).ownBlock.toList w10 wr) (fun _ i _ => LW.length - (intOf i).toNat)
            case atStart => exact ⟨0, by omega, rfl, HB10.out, Fr.refl _ _⟩
            case round =>
              obtain ⟨k3, hk3, rfl, hoB, hfr3⟩ := hrel
              have HOK3 := Lib.hid hoB
              have HFK3 := Lib.hid hfr3
              by_cases hlt3 : k3 < LW.length
              · obtain ⟨g, rfl, _, _⟩ := hoB.addr (by omega)
                obtain ⟨⟨y, hy⟩, hyf⟩ := hoB.cell hlt3
                have HS := Lib.hid (hoB.setN k3 238 (by decide))
                clear hoB hfr3
                go_wp2_with fail
                go_roundw
                case rel => exact ⟨k3 + 1, by omega, by go_num, HS.out, HFK3.out.setCell (by simp [Value.ownBlock]) _⟩
                case measure => simp [intOf] <;> omega
              · clear hoB hfr3
                have HNB := Lib.hid (show ∀ i, i < w2.heap.size ∨ w3.heap.size ≤ i → i ∉ (Value.slice ab LW.length cb).ownBlock.toList from fun i h hm => by have := HBB.out i (mem_blk hm); omega)
                have HFE := Lib.hid (HFW10.out.next HFK3.out (fun i hi hlt => absurd hi (HNB.out i (.inl (by have := HORG.out; have := HF2.out.size; omega)))))
                cases hfin : noFine rl pp labs
                · have hb0 : ((LW.length : Int) == 0) = true := by rw [HLW.out]; unfold noL; rw [if_neg (by rw [hfin]; simp)]; rfl
                  clear hfin
                  go_wp2
                  go_ret
                  exact ⟨rfl, HFE.out⟩
                · have hle : LW = noB rl pp labs := by rw [HLW.out]; unfold noL; rw [if_pos hfin]
                  have h16 : LW.length = 16 := by rw [hle]; exact noB_length (labFine_bd (noFine_bd hfin).2.2).2
                  have he0 : errNo LW = 0 := errNo_ok h16 (by rw [hle]; exact (noOk_noB hfin).1)
                  have hv0 : valNo LW = (rl, pp, labs) := by rw [valNo_ok he0, hle, (noOk_noB hfin).2, (no_nm hfin).1, (no_nm hfin).2.1]
                  have hr := HR.out
                  rw [hv0] at hr
                  simp only [Prod.mk.injEq] at hr
                  obtain ⟨rfl, rfl, rfl⟩ := hr
                  have hb0 : ((LW.length : Int) == 0) = false := by rw [h16]; rfl
                  have HYE := Lib.hid (HFK3.out.obj HY10.out (HNB.out _ (.inr (by have := HSZ3.out; have := HF5.out.size; have := HSZ6.out; have := HSZ7.out; omega))))
                  have HOE := Lib.hid (HFK3.out.obj HO10.out (HNB.out _ (.inl (by have := HORG.out; have := HF2.out.size; omega))))
                  have HIE := Lib.hid (ints_own_ (own_fr HIY10.out HFK3.out (fun i hi => HNB.out i (.inr (by have := (HBY.out i hi).1; have := HSZ3.out; have := HF5.out.size; have := HSZ6.out; omega)))))
                  obtain ⟨y0, y1, y2⟩ := three HYE.out
                  obtain ⟨o0, o1, o2⟩ := three HOE.out
                  clear hfin hle h16 he0 hv0 x2 xf2
                  go_wp2_with fail
                  refine (sameNode12_eq _ _ ly la cy lc _ _ HL2 HIE.out (HI.out.keep HFE.out)).mono ?_
                  rintro e w11 ⟨rfl, hf11⟩
                  have HF11 := Lib.hid (HFE.out.trans hf11)
                  clear hf11 y0 y1 y2 o0 o1 o2
                  go_wp2
                  go_ret
                  exact ⟨rfl, HF11.out⟩
end Go.Proofs.Ytbhmfbhfofgfaaa
