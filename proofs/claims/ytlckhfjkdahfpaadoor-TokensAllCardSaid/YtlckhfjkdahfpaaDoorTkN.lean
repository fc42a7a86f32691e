/- Tokens: the document's Bytes. -/
import Derived.Test.YtlckhfjkdahfpaaDoorTkL
import Derived.Test.YtlckhfjkdahfpaaDoorMfE
import Derived.Test.YtlckhfjkdahfpaaDoorLate
namespace Go.Proofs.YtlckhfjkdahfpaaDoor
open Go.RowKit Go.Maps
attribute [local go_sem ↓] Go.wp_at_zero Go.wp_at_succ
attribute [local go_sem] Oper.semAt_some
theorem recN_take {s : List UInt8} {j : Nat} (hj : j < 40) (hs : s.length ≤ 40) : (recN s).take (1 + (j + 1)) = (recN s).take (1 + j) ++ [(recN s).getD (1 + j) 0] := by
  have hl := recN_length hs
  rw [show 1 + (j + 1) = (1 + j) + 1 by omega, List.take_succ_eq_append_getElem (by omega)]
  congr 2
  rw [List.getD_eq_getElem?_getD, List.getElem?_eq_getElem (by omega)]
  rfl
theorem recN_in {s : List UInt8} {j : Nat} (hj : j < s.length) : (recN s).getD (1 + j) 0 = s.getD j 0 := by
  unfold recN
  rw [show 1 + j = j + 1 by omega, List.getD_eq_getElem?_getD, List.getElem?_cons_succ, List.getElem?_append_left hj, List.getD_eq_getElem?_getD]
theorem recN_out {s : List UInt8} {j : Nat} (hj : s.length ≤ j) : (recN s).getD (1 + j) 0 = 0 := by
  unfold recN
  rw [show 1 + j = j + 1 by omega, List.getD_eq_getElem?_getD, List.getElem?_cons_succ, List.getElem?_append_right hj, List.getElem?_replicate]
  split <;> rfl
theorem recN_doc (s : List UInt8) : ((s != []), recN s) = docO 42 (recT s) := by
  unfold recT
  by_cases h : s = []
  · rw [if_pos h, h]
    rfl
  · rw [if_neg h, bne_iff_ne.2 h]
    rfl
set_option maxRecDepth 100000 in
set_option maxHeartbeats 3200000 in
theorem Bytes_Q (B : Nat) (bs : List Nat) (w : World) (q kd vr : Nat) (N : Nms) (h : MT B bs w q kd vr N) (hkd : kd ≤ 255) (hvr : vr ≤ 255) :
    Calls Tryd.prog 23 #[.pointer (some ⟨q, 0, none⟩)] w fun e w' => ∃ v, e = .returned v ∧ Fresh w.heap.size w w' v (fileB kd vr 42 (recsT N)) := by
  obtain ⟨v, h, -⟩ := h
  obtain ⟨x0, x1, x2⟩ := trioQ h.obj
  obtain ⟨a, c, rfl⟩ := own_slR h.nms
  have H := Lib.hid h
  have hl200 := h.ok.len
  have hqw := (Array.getElem?_eq_some_iff.1 h.obj).1
  have HGOOD := Lib.hid h.ok.good
  clear h
  obtain ⟨n, hn⟩ : ∃ n, n = N.length := ⟨_, rfl⟩
  rw [← hn] at x2 hl200
  have HN := Lib.hid hn
  have HQW := Lib.hid hqw
  clear hn hqw
  have hone : ∀ (W : World) (x : UInt8), Bytes (W.alloc (.cells #[.int .u8 (x.toNat : Int)] 5)) (some ⟨W.heap.size, 0, none⟩) [x] := fun W x => by
    have h := Bytes.one (w := W) (g := W.heap.size) (t := 5) (fr := (0, 0)) x rfl
    rw [I8_toT] at h
    exact h
  have hone0 : ∀ (W : World), Bytes (W.alloc (.cells #[.int .u8 0] 5)) (some ⟨W.heap.size, 0, none⟩) [0] := fun W => hone W 0
  have HONE0 := Lib.hid hone0
  have HONE := Lib.hid hone
  clear hone hone0
  go_enter Tryd.func23, Tryd.ntmps23
  go_upto_region 1 with fail
  go_still_tail 9, (by kernel_rfl)
  change wpList _ _ _ _ _ w.drew
  obtain ⟨w1, hw1⟩ : ∃ w1, w1 = (w.alloc (.cells #[.int .i64 kd, .int .i64 vr, .int .i64 42, .slice none 0 0] 84)).drew := ⟨_, rfl⟩
  go_upto_region 2 with fail
  rw [← hw1]
  have HF1 := Lib.hid (show Fr [] w w1 by rw [hw1]; exact ((Fr.refl [] w).alloc _).drew)
  have HM1 : Hid (MFH w1 w.heap.size w.heap.size (.slice none 0 0) [] ⟨kd, vr, 42, 0, recsT (N.take 0)⟩) := Lib.hid ⟨by rw [hw1]; exact heap_alloc_new w _, ML.nil _ _, rfl, ⟨hkd, hvr, by show 2 ≤ 42; omega, by show 42 ≤ 255; omega, by show (recsT (N.take 0)).length ≤ 65536; simp [recsT], fun d hd => absurd hd (by simp [recsT]), fun i hi => absurd hi (by simp)⟩, Nat.le_refl _⟩
  obtain ⟨p, hp⟩ : ∃ p, p = w.heap.size := ⟨_, rfl⟩
  rw [← hp]
  have HP := Lib.hid hp
  have HM1' := Lib.hid (show MFH w1 w.heap.size p (.slice none 0 0) [] ⟨kd, vr, 42, 0, recsT (N.take 0)⟩ by rw [hp]; exact HM1.out)
  clear hw1 x0 x1 hp
  go_wp2_with fail
  go_loopw [4] (fun i wr => ∃ k : Nat, k ≤ n ∧ i = .int .i64 k ∧ ∃ v X, MFH wr w.heap.size p v X ⟨kd, vr, 42, 0, recsT (N.take k)⟩ ∧ Fr [] w wr) (fun i _ => n - (intOf i).toNat)
  case atStart => exact ⟨0, by omega, rfl, _, _, HM1'.out, HF1.out⟩
  case round =>
    obtain ⟨k, hk, rfl, v, X, hmf, hfr⟩ := hrel
    obtain ⟨wo, hwo⟩ : ∃ wo, wo = wr := ⟨_, rfl⟩
    subst hwo
    have z2 := hfr.cell x2 (by simp)
    have HM := Lib.hid hmf
    have HF := Lib.hid hfr
    clear hmf hfr
    by_cases hlt : k < n
    · obtain ⟨g, S, rfl, hc, -, hS, hS2, -⟩ := name_cell H.out (k := k) (by rw [← HN.out]; exact hlt)
      have HGW : Hid (g < w.heap.size) := Lib.hid (own_lt H.out.nms rfl).2
      obtain ⟨s, hs⟩ : ∃ s, s = N.getD k [] := ⟨_, rfl⟩
      rw [← hs] at hS hS2
      have HSN := Lib.hid hs.symm
      have hs40 : s.length ≤ 40 := by
        by_cases h0 : s = []
        · rw [h0]; simp
        · refine (goodB_ne (HGOOD.out s ?_ h0)).2
          rw [hs, List.getD_eq_getElem?_getD, List.getElem?_eq_getElem (by rw [← HN.out]; exact hlt)]
          exact List.getElem_mem _
      have hssz : S.size = s.length := by rw [hS2]; exact str_size s
      obtain ⟨m, hm⟩ : ∃ m, m = s.length := ⟨_, rfl⟩
      rw [← hm] at hssz hs40
      have HM40 := Lib.hid hm
      have HIX : Hid (∀ j (hj : j < S.size), (S[j]'hj).toNat = (s.getD j 0).toNat) := Lib.hid (by subst hS2; exact str_at s)
      have HS40 : Hid (s.length ≤ 40) := Lib.hid (by omega)
      have HSL := Lib.hid hS
      have hc := HF.out.cell hc (by simp)
      have hki : (k : Int) < (n : Int) := by omega
      have hk0 : (0 : Int) ≤ (k : Int) := by omega
      have e4 : (m : Int) % 256 = (m : Int) := by omega
      have HU : Hid (((UInt8.ofNat m).toNat : Int) = (m : Int)) := Lib.hid (by
        have : (UInt8.ofNat m).toNat = m % 256 := by simp
        omega)
      have hlt' := hlt
      clear hs hS hS2 hm
      go_upto_region 6 with fail
      obtain ⟨wd, hwd⟩ : ∃ wd, wd = wo.alloc (.cells #[.int .u8 (m : Int)] 5) := ⟨_, rfl⟩
      rw [← hwd]
      have HGR : Hid (Grow [] wo wd (.slice (some ⟨wo.heap.size, 0, none⟩) 1 1) ((recN s).take (1 + 0))) := Lib.hid (by
        have h := own_bs wo [UInt8.ofNat m] [.int .u8 ((UInt8.ofNat m).toNat : Int)] (by simp [B8, I8_toT]) (by simp)
        have e : (recN s).take (1 + 0) = [UInt8.ofNat m] := by unfold recN; rw [HM40.out]; rfl
        rw [HU.out] at h
        rw [e, hwd]
        exact ⟨h, by simp, fun _ h => (List.not_mem_nil h).elim, (Fr.refl _ _).alloc _⟩)
      clear hwd z2 e4
      go_wp2_with fail
      go_loopw [5, 6] (fun v j wj => ∃ jj : Nat, jj ≤ 40 ∧ j = .int .i64 jj ∧ Grow [] wo wj v ((recN s).take (1 + jj))) (fun _ j _ => 40 - (intOf j).toNat)
      case atStart => exact ⟨0, by omega, rfl, HGR.out⟩
      case round =>
        obtain ⟨jj, hjj, rfl, hgr⟩ := hrel
        have HG := Lib.hid hgr
        have hf2 := HF.out.trans hgr.fr
        have HF2 := Lib.hid hf2
        have z2 := hf2.cell x2 (by simp)
        have hc := HG.out.fr.cell hc (by simp)
        have HLT : Hid (((recN s).take (1 + jj)).length = 1 + jj) := Lib.hid (by rw [List.length_take, recN_length HS40.out]; omega)
        clear hgr hf2
        by_cases hj40 : jj < 40
        · have hji : (jj : Int) < 40 := by omega
          have hj0 : (0 : Int) ≤ (jj : Int) := by omega
          have HTK := Lib.hid (recN_take (s := s) hj40 HS40.out)
          obtain ⟨x, hx⟩ : ∃ x, x = (recN s).getD (1 + jj) 0 := ⟨_, rfl⟩
          rw [← hx] at HTK
          by_cases hjm : jj < m
          · have hjmi : (jj : Int) < (m : Int) := by omega
            have hix := HIX.out jj (by rw [hssz]; exact hjm)
            rw [show s.getD jj 0 = x by rw [hx]; exact (recN_in (by rw [← HM40.out]; exact hjm)).symm] at hix
            clear hx
            go_wp2_with (at_builtin; refine wpList_apB _ rfl _ _ 37 rfl wo.heap.size 5 Tryd.underlying37 info8 u5 ((recN s).take (1 + jj)) rfl (HG.out.alloc _).own (some ⟨wr.heap.size, 0, none⟩) 1 1 [x] rfl rfl (HONE.out wr x) (fun h => by cases h) (by rw [HLT.out]; simp; omega) (by have := HG.out.fr.size; simp; omega) ?_; intro v' w1 happ; have HA := Lib.hid happ; clear happ)
            go_roundw
            case rel =>
              refine ⟨jj + 1, by omega, by go_num, ?_⟩
              rw [HTK.out]
              exact (HG.out.alloc _).app HA.out
            case measure => simp [intOf] <;> omega
          · have hjmi : ¬ (jj : Int) < (m : Int) := by omega
            have hx0 : x = 0 := by rw [hx]; exact recN_out (by rw [← HM40.out]; omega)
            subst hx0
            clear hx
            go_wp2_with (at_builtin; refine wpList_apB _ rfl _ _ 37 rfl wo.heap.size 5 Tryd.underlying37 info8 u5 ((recN s).take (1 + jj)) rfl (HG.out.alloc _).own (some ⟨wr.heap.size, 0, none⟩) 1 1 [0] rfl rfl (HONE0.out wr) (fun h => by cases h) (by rw [HLT.out]; simp; omega) (by have := HG.out.fr.size; simp; omega) ?_; intro v' w1 happ; have HA := Lib.hid happ; clear happ)
            go_roundw
            case rel =>
              refine ⟨jj + 1, by omega, by go_num, ?_⟩
              rw [HTK.out]
              exact (HG.out.alloc _).app HA.out
            case measure => simp [intOf] <;> omega
        · obtain rfl : jj = 40 := by omega
          have hall : (recN s).take (1 + 40) = recN s := List.take_of_length_le (by rw [recN_length HS40.out]; omega)
          have hgr := HG.out
          rw [hall] at hgr
          obtain ⟨gd, gc, rfl, hgd, hgl, hown, -⟩ := hgr.fresh
          have HGD := Lib.hid (show wo.heap.size ≤ gd from hgd)
          obtain ⟨wr2, hwr2⟩ : ∃ wr2, wr2 = wr := ⟨_, rfl⟩
          subst hwr2
          rw [recN_length HS40.out] at hown ⊢
          have HD2 := Lib.hid (own_base hown HF.out.size)
          have HM2 := Lib.hid (HM.out.keep hgr.fr)
          obtain ⟨va, vc, rfl, -⟩ := HM2.out.recs.sl
          obtain ⟨y0, y1, y2, y3⟩ := four HM2.out.obj
          obtain ⟨u, hu⟩ : ∃ u, u = (s != []) := ⟨_, rfl⟩
          have hse : S.toList.isEmpty = !u := by
            rw [HSL.out, hu]
            cases s <;> rfl
          have HDO : Hid (RI.p ⟨u, some ⟨gd, 0, none⟩, gc, recN s⟩ = docO 42 (recT s)) := Lib.hid (by rw [← recN_doc, hu]; rfl)
          have HRL : Hid ((recsT (N.take k)).length < 65536) := Lib.hid (by unfold recsT; rw [List.length_map, List.length_take]; omega)
          have HRO : Hid (∀ d, recT s = some d → d.length + 1 = 42) := Lib.hid (fun d hd => by
            unfold recT at hd
            split at hd
            · cases hd
            · have : recN s = d := Option.some.inj hd
              rw [← this, recN_length HS40.out])
          have hXl := HM2.out.len
          have hXn : X.length ≤ 200 := by rw [hXl]; show (recsT (N.take k)).length ≤ 200; unfold recsT; rw [List.length_map, List.length_take]; omega
          have hfA : ∀ o, Fr [] wr2 (World.drew (wr2.alloc o)) := fun o => ((Fr.refl [] wr2).alloc o).drew
          clear hall hgr hgd hgl hown hu hXl y0 y1 y2
          go_upto_region 13 with fail
          refine region_late (fun w' => w'.cell? ⟨p, 3, none⟩ = some (.slice va X.length vc) ∧ w'.cell? ⟨q, 2, none⟩ = some (.slice (some ⟨g, 0, none⟩) n c) ∧ w'.cell? ⟨g, k, none⟩ = some (.string S)) [19] (by kernel_rfl) (by exact ⟨y3, z2, hc⟩) (fun hHd0 => ?_)
          refine wpAnyL_pure (i := 0) (v := ?_) rfl (by kernel_rfl) (by kernel_rfl) (by kernel_rfl) (by kernel_rfl) (by kernel_rfl) (fun _ _ _ h => h) (Or.inl ⟨by rfl, ?_⟩) (fun _ => hHd0) ?_
          rotate_left
          · (intro w _; go_simp; (try with_reducible rfl))
          try simp only [Act.put, List.setIfInBounds_toArray, List.set_cons_zero, List.set_cons_succ, List.getElem_toArray, List.getElem_cons_zero, List.getElem_cons_succ]
          refine wpAnyL_pure (i := 1) (v := ?_) rfl (by kernel_rfl) (by kernel_rfl) (by kernel_rfl) (by kernel_rfl) (by kernel_rfl) (fun _ _ _ h => h) (Or.inl ⟨by rfl, ?_⟩) (fun _ => hHd0) ?_
          rotate_left
          · (intro w _; go_simp; (try with_reducible rfl))
          try simp only [Act.put, List.setIfInBounds_toArray, List.set_cons_zero, List.set_cons_succ, List.getElem_toArray, List.getElem_cons_zero, List.getElem_cons_succ]
          refine wpAnyL_pure (i := 2) (v := ?_) rfl (by kernel_rfl) (by kernel_rfl) (by kernel_rfl) (by kernel_rfl) (by kernel_rfl) (fun _ _ _ h => h) (Or.inl ⟨by rfl, ?_⟩) (fun _ => hHd0) ?_
          rotate_left
          · (intro w _; go_simp; (try with_reducible rfl))
          try simp only [Act.put, List.setIfInBounds_toArray, List.set_cons_zero, List.set_cons_succ, List.getElem_toArray, List.getElem_cons_zero, List.getElem_cons_succ]
          refine wpAnyL_pure (i := 3) (v := ?_) rfl (by kernel_rfl) (by kernel_rfl) (by kernel_rfl) (by kernel_rfl) (by kernel_rfl) (fun _ _ _ h => h) (Or.inl ⟨by rfl, ?_⟩) (fun _ => hHd0) ?_
          rotate_left
          · (intro w _; go_simp; (try with_reducible rfl))
          try simp only [Act.put, List.setIfInBounds_toArray, List.set_cons_zero, List.set_cons_succ, List.getElem_toArray, List.getElem_cons_zero, List.getElem_cons_succ]
          refine wpAnyL_take (i := 4) (v := ?_) rfl (by kernel_rfl) (by kernel_rfl) (by kernel_rfl) (by kernel_rfl) (by kernel_rfl) (fun _ _ _ h => h) (Or.inl ⟨by rfl, ?_⟩) hHd0 ?_
          rotate_left
          · (intro w hSw; (try dsimp only at hSw); go_simp; (try with_reducible rfl))
          try simp only [Act.put, List.setIfInBounds_toArray, List.set_cons_zero, List.set_cons_succ, List.getElem_toArray, List.getElem_cons_zero, List.getElem_cons_succ]
          refine wpAnyL_pure (i := 5) (v := ?_) rfl (by kernel_rfl) (by kernel_rfl) (by kernel_rfl) (by kernel_rfl) (by kernel_rfl) (fun _ _ _ h => h) (Or.inl ⟨by rfl, ?_⟩) (fun _ => hHd0) ?_
          rotate_left
          · (intro w _; go_simp; (try with_reducible rfl))
          try simp only [Act.put, List.setIfInBounds_toArray, List.set_cons_zero, List.set_cons_succ, List.getElem_toArray, List.getElem_cons_zero, List.getElem_cons_succ]
          refine wpAnyL_pure (i := 6) (v := ?_) rfl (by kernel_rfl) (by kernel_rfl) (by kernel_rfl) (by kernel_rfl) (by kernel_rfl) (fun _ _ _ h => h) (Or.inl ⟨by rfl, ?_⟩) (fun _ => hHd0) ?_
          rotate_left
          · (intro w _; go_simp; (try with_reducible rfl))
          try simp only [Act.put, List.setIfInBounds_toArray, List.set_cons_zero, List.set_cons_succ, List.getElem_toArray, List.getElem_cons_zero, List.getElem_cons_succ]
          refine wpAnyL_pure (i := 7) (v := ?_) rfl (by kernel_rfl) (by kernel_rfl) (by kernel_rfl) (by kernel_rfl) (by kernel_rfl) (fun _ _ _ h => h) (Or.inl ⟨by rfl, ?_⟩) (fun _ => hHd0) ?_
          rotate_left
          · (intro w _; go_simp; (try with_reducible rfl))
          try simp only [Act.put, List.setIfInBounds_toArray, List.set_cons_zero, List.set_cons_succ, List.getElem_toArray, List.getElem_cons_zero, List.getElem_cons_succ]
          refine wpAnyL_take (i := 8) (v := ?_) rfl (by kernel_rfl) (by kernel_rfl) (by kernel_rfl) (by kernel_rfl) (by kernel_rfl) (fun _ _ _ h => h) (Or.inl ⟨by rfl, ?_⟩) hHd0 ?_
          rotate_left
          · (intro w hSw; (try dsimp only at hSw); go_simp; (try with_reducible rfl))
          try simp only [Act.put, List.setIfInBounds_toArray, List.set_cons_zero, List.set_cons_succ, List.getElem_toArray, List.getElem_cons_zero, List.getElem_cons_succ]
          refine wpAnyL_pure (i := 9) (v := ?_) rfl (by kernel_rfl) (by kernel_rfl) (by kernel_rfl) (by kernel_rfl) (by kernel_rfl) (fun _ _ _ h => h) (Or.inl ⟨by rfl, ?_⟩) (fun _ => hHd0) ?_
          rotate_left
          · (intro w _; go_simp; (try with_reducible rfl))
          try simp only [Act.put, List.setIfInBounds_toArray, List.set_cons_zero, List.set_cons_succ, List.getElem_toArray, List.getElem_cons_zero, List.getElem_cons_succ]
          refine wpAnyL_take (i := 10) (v := ?_) rfl (by kernel_rfl) (by kernel_rfl) (by kernel_rfl) (by kernel_rfl) (by kernel_rfl) (fun _ _ _ h => h) (Or.inl ⟨by rfl, ?_⟩) hHd0 ?_
          rotate_left
          · (intro w hSw; (try dsimp only at hSw); go_simp; (try with_reducible rfl))
          try simp only [Act.put, List.setIfInBounds_toArray, List.set_cons_zero, List.set_cons_succ, List.getElem_toArray, List.getElem_cons_zero, List.getElem_cons_succ]
          refine wpAnyL_take (i := 11) (v := ?_) rfl (by kernel_rfl) (by kernel_rfl) (by kernel_rfl) (by kernel_rfl) (by kernel_rfl) (fun _ _ _ h => h) (Or.inl ⟨by rfl, ?_⟩) hHd0 ?_
          rotate_left
          · (intro w hSw; (try dsimp only at hSw); go_simp; (try with_reducible rfl))
          try simp only [Act.put, List.setIfInBounds_toArray, List.set_cons_zero, List.set_cons_succ, List.getElem_toArray, List.getElem_cons_zero, List.getElem_cons_succ]
          refine wpAnyL_take (i := 12) (v := ?_) rfl (by kernel_rfl) (by kernel_rfl) (by kernel_rfl) (by kernel_rfl) (by kernel_rfl) (fun _ _ _ h => h) (Or.inl ⟨by rfl, ?_⟩) hHd0 ?_
          rotate_left
          · (intro w hSw; (try dsimp only at hSw); go_simp; (try with_reducible rfl))
          try simp only [Act.put, List.setIfInBounds_toArray, List.set_cons_zero, List.set_cons_succ, List.getElem_toArray, List.getElem_cons_zero, List.getElem_cons_succ]
          refine wpAnyL_pure (i := 13) (v := ?_) rfl (by kernel_rfl) (by kernel_rfl) (by kernel_rfl) (by kernel_rfl) (by kernel_rfl) (fun _ _ _ h => h) (Or.inl ⟨by rfl, ?_⟩) (fun _ => hHd0) ?_
          rotate_left
          · (intro w _; go_simp; (try with_reducible rfl))
          try simp only [Act.put, List.setIfInBounds_toArray, List.set_cons_zero, List.set_cons_succ, List.getElem_toArray, List.getElem_cons_zero, List.getElem_cons_succ]
          refine wpAnyL_take (i := 14) (v := ?_) rfl (by kernel_rfl) (by kernel_rfl) (by kernel_rfl) (by kernel_rfl) (by kernel_rfl) (fun _ _ _ h => h) (Or.inl ⟨by rfl, ?_⟩) hHd0 ?_
          rotate_left
          · (intro w hSw; (try dsimp only at hSw); go_simp; (try with_reducible rfl))
          try simp only [Act.put, List.setIfInBounds_toArray, List.set_cons_zero, List.set_cons_succ, List.getElem_toArray, List.getElem_cons_zero, List.getElem_cons_succ]
          refine wpAnyL_ready (rs := [15]) (by kernel_rfl) (by simp) ?_
          refine (AllReadyL.cons rfl (fun K hK => ?_) AllReadyL.nil)
          go_simp
          refine hK.out _ _ (by exact ⟨(hfA _).cell y3 (by simp), (hfA _).cell z2 (by simp), (hfA _).cell hc (by simp)⟩) (fun hHd1 => ?_)
          clear hK K hHd0
          try simp only [Act.put, List.setIfInBounds_toArray, List.set_cons_zero, List.set_cons_succ, List.getElem_toArray, List.getElem_cons_zero, List.getElem_cons_succ]
          refine wpAnyL_ready (rs := [16]) (by kernel_rfl) (by simp) ?_
          refine (AllReadyL.cons rfl (fun K hK => ?_) AllReadyL.nil)
          have HH5 := Lib.hid (HM2.out.keep (hfA (.cells #[.bool u, .slice (some ⟨gd, 0, none⟩) 41 gc] 86)))
          have hy5 : World.ownsRow (wr2.alloc (.cells #[.bool u, .slice (some ⟨gd, 0, none⟩) 41 gc] 86)).drew w.heap.size 5 1 (RI.v ⟨u, some ⟨gd, 0, none⟩, gc, recN s⟩) (recN s).length ((recN s).map B8) := by
            have h := own_fr HD2.out (hfA (.cells #[.bool u, .slice (some ⟨gd, 0, none⟩) 41 gc] 86)) (by simp)
            unfold RI.v
            rw [recN_length HS40.out]
            exact h
          have HY5 := Lib.hid hy5
          have hB5 : w.heap.size ≤ (World.drew (wr2.alloc (.cells #[.bool u, .slice (some ⟨gd, 0, none⟩) 41 gc] 86))).heap.size := Nat.le_trans HF2.out.size (hfA _).size
          clear hy5
          refine step_appS rfl (.tmp 68) (.tmp 79) 82 rfl w.heap.size 86 (.agg #[.bool false, .slice none 0 0]) 2 32 Tryd.underlying82 infoRI rfl (by decide) (.slice va X.length vc) X.length (riCells X) (by simp [Act.eval, Act.put]) HH5.out.recs.row (some ⟨wr2.heap.size, 0, none⟩) 1 1 [.bool u, .slice (some ⟨gd, 0, none⟩) 41 gc] (by simp [Act.eval, Act.put]) rfl (bx_news2 (heap_alloc_new wr2 _)) (fun h => by cases h) (by simp [Value.oneCell']) (by unfold maxLen; omega) (by omega) hB5 ?_
          intro v' w6 happ
          obtain ⟨va2, vc2, rfl⟩ := own_slR happ.own
          have hra := MFH.app (y := ⟨u, some ⟨gd, 0, none⟩, gc, recN s⟩) (o := recT s) HH5.out HY5.out (by simp only [RI.v, recN_length HS40.out]; exact happ) (fun g' hg e => by
            have h1 : gd = g' := by simpa [RI.v, Value.ownBlock] using hg
            have := (own_lt HM.out.recs.row e).2
            have := HGD.out
            omega) HDO.out HRL.out HRO.out
          have HRA := Lib.hid hra
          have z1 : w6.heap[p]? = some (.cells #[.int .i64 kd, .int .i64 vr, .int .i64 42, .slice va X.length vc] 84) := (app_frZ happ).obj HH5.out.obj (fun hm => HH5.out.ne (by simpa using hm))
          have HFW6 := Lib.hid (hfA (.cells #[.bool u, .slice (some ⟨gd, 0, none⟩) 41 gc] 86))
          obtain ⟨z10, z11, z12, z13⟩ := four z1
          have z1f := frozen_of_row _ _ 3 _ _ z1
          have z6h := (app_frZ happ)
          have kq : w6.cell? ⟨q, 2, none⟩ = some (.slice (some ⟨g, 0, none⟩) n c) := z6h.cell ((hfA _).cell z2 (by simp)) (fun hm => by have := (own_lt HM.out.recs.row (g := q) (by simpa using hm)).1; have := HQW.out; omega)
          have kc : w6.cell? ⟨g, k, none⟩ = some (.string S) := z6h.cell ((hfA _).cell hc (by simp)) (fun hm => by have := (own_lt HM.out.recs.row (g := g) (by simpa using hm)).1; have := HGW.out; omega)
          clear hra happ z1 z6h
          refine hK.out _ _ (by exact ⟨z13, kq, kc⟩) (fun hHd2 => ?_)
          clear hK K hHd1
          try simp only [Act.put, List.setIfInBounds_toArray, List.set_cons_zero, List.set_cons_succ, List.getElem_toArray, List.getElem_cons_zero, List.getElem_cons_succ]
          refine wpAnyL_pure (i := 17) (v := ?_) rfl (by kernel_rfl) (by kernel_rfl) (by kernel_rfl) (by kernel_rfl) (by kernel_rfl) (fun _ _ _ h => h) (Or.inl ⟨by rfl, ?_⟩) (fun _ => hHd2) ?_
          rotate_left
          · (intro w _; go_simp; (try with_reducible rfl))
          try simp only [Act.put, List.setIfInBounds_toArray, List.set_cons_zero, List.set_cons_succ, List.getElem_toArray, List.getElem_cons_zero, List.getElem_cons_succ]
          refine wpAnyL_pure (i := 18) (v := ?_) rfl (by kernel_rfl) (by kernel_rfl) (by kernel_rfl) (by kernel_rfl) (by kernel_rfl) (fun _ _ _ h => h) (Or.inl ⟨by rfl, ?_⟩) (fun _ => hHd2) ?_
          rotate_left
          · (intro w _; go_simp; (try with_reducible rfl))
          try simp only [Act.put, List.setIfInBounds_toArray, List.set_cons_zero, List.set_cons_succ, List.getElem_toArray, List.getElem_cons_zero, List.getElem_cons_succ]
          refine wpAnyL_ready (rs := [19]) (by kernel_rfl) (by simp) ?_
          refine (AllReadyL.consLate rfl (by kernel_rfl) (fun K hK => ?_) AllReadyL.nil)
          go_simp
          refine hK.out _ _ ?_
          clear hK K hHd2
          try simp only [Act.put, List.setIfInBounds_toArray, List.set_cons_zero, List.set_cons_succ, List.getElem_toArray, List.getElem_cons_zero, List.getElem_cons_succ]
          refine wpAnyL_done (by kernel_rfl) ?_ _
          go_wp2
          obtain ⟨q1, q2, q3⟩ := HRA.out
          go_roundw
          case rel =>
            have e : recsT (N.take (k + 1)) = recsT (N.take k) ++ [recT s] := by
              unfold recsT
              rw [List.take_succ_eq_append_getElem (by rw [← HN.out]; exact hlt'), List.map_append, ← HSN.out]
              rw [List.getD_eq_getElem?_getD, List.getElem?_eq_getElem (by rw [← HN.out]; exact hlt')]
              rfl
            have hfe := HF2.out.next ((HFW6.out.mono (by simp)).trans q2) (fun i hi hlt => by
              have := (HM2.out.lt i hi).1
              omega)
            refine ⟨k + 1, by omega, by go_num, .slice va2 (X.length + 1) vc2, X ++ [⟨u, some ⟨gd, 0, none⟩, gc, recN s⟩], ?_, hfe⟩
            rw [e]
            exact q1
          case measure => simp [intOf] <;> omega
    · have hki : ¬ (k : Int) < (n : Int) := by omega
      have e : recsT (N.take k) = recsT N := by rw [List.take_of_length_le (by rw [← HN.out]; omega)]
      have hm := HM.out
      rw [e] at hm
      have HB := Lib.hid (Bytes9 _ _ wo p _ ⟨v, X, hm, rfl⟩)
      clear hm e
      go_wp2_with fail
      refine HB.out.mono ?_
      rintro e w2 ⟨v2, rfl, hf⟩
      have HFF := Lib.hid hf
      clear hf
      go_wp2_with fail
      go_ret
      exact ⟨v2, rfl, HFF.out.base HF.out HF.out.size⟩
end Go.Proofs.YtlckhfjkdahfpaaDoor
