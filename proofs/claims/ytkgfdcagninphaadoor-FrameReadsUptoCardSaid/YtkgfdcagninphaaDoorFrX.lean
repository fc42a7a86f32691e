/- Frames: the walk of FrameReads. -/
import Derived.Test.YtkgfdcagninphaaDoorFrW
import Derived.Test.YtkgfdcagninphaaDoorFrArgS
import Derived.Test.YtkgfdcagninphaaDoorSpoil
import Derived.Deep.RegionHeld3
namespace Go.Proofs.YtkgfdcagninphaaDoor
open Go.RowKit
attribute [local go_sem ↓] Go.wp_at_zero Go.wp_at_succ
theorem run_nil : run [] = ([], 0, 0) := run_cut one_nil
theorem run_frames (L : List UInt8) : (run L).1.length ≤ L.length := by have := run_end L; omega
theorem rel_Y {X Y : List FI} {L : List UInt8} {g : Nat} (hY : Y.map FI.fr = (run L).1) (hX : X.map FI.fr = (run L).1.drop g) : Y.length = (run L).1.length ∧ X.length = (run L).1.length - g := by
  have h1 := congrArg List.length hY
  have h2 := congrArg List.length hX
  rw [List.length_map] at h1 h2
  rw [List.length_drop] at h2
  exact ⟨h1, h2⟩
theorem rel_get {X Y : List FI} {x : FI} {L : List UInt8} {g : Nat} (hY : Y.map FI.fr = (run L).1) (hX : (x :: X).map FI.fr = (run L).1.drop g) : ∃ (h : g < Y.length), Y[g].t = x.t ∧ Y[g].d = x.d ∧ X.map FI.fr = (run L).1.drop (g + 1) := by
  have h1 := rel_Y hY hX
  have hlt : g < Y.length := by rw [List.length_cons] at h1; omega
  refine ⟨hlt, ?_⟩
  have h3 := congrArg (fun l => l[0]?) hX
  rw [← hY] at h3
  simp only [List.map_cons, List.getElem?_cons_zero, List.getElem?_drop, Nat.add_zero, List.getElem?_map, List.getElem?_eq_getElem hlt, Option.map_some, Option.some.injEq] at h3
  have e1 : x.t = Y[g].t := congrArg Prod.fst h3
  have e2 : x.d = Y[g].d := congrArg Prod.snd h3
  refine ⟨e1.symm, e2.symm, ?_⟩
  have h := congrArg List.tail hX
  simpa using h
theorem own_max {w : World} {B e n : Nat} {v : Value} {xs : List Value} (h : w.ownsRow B e 1 v n xs) : n ≤ 9223372036854775807 := by
  rcases h.2 with ⟨_, h0⟩ | ⟨g, cap, cur, rfl, _, _, hn, hm, _⟩
  · omega
  · unfold maxLen at hm
    omega
set_option maxRecDepth 100000 in
set_option maxHeartbeats 3200000 in
theorem frameReads_walk (sa : Option Addr) (n sc : Nat) (F : Nat → StV) (w : World) (hn : n ≤ 1048576) (hF : StsA w sa n F) (hS : ∀ k, k < n → (F k).d.length ≤ 1048576) (hnib : Nib w) :
    Calls Tryd.prog 10 #[.slice sa n sc] w fun e w' => e = .returned (.bool true) ∧ Fr [] w w' := by
  have HN := Lib.hid hnib
  have HF := Lib.hid hF
  have HS := Lib.hid hS
  clear hnib hF hS
  go_enter Tryd.func10, Tryd.ntmps10
  go_wp2_with fail
  refine (speaks19 w HN.out).mono ?_
  rintro e w1 ⟨rfl, hf1⟩
  have HF1 := Lib.hid hf1
  clear hf1
  go_wp2_with fail
  refine (NewReader_F w1).mono ?_
  rintro e w2 ⟨p, rfl, hr2, hp, hp2, hf2⟩
  obtain ⟨wz, hwz⟩ : ∃ wz, wz = w2.alloc (.cells #[] 5) := ⟨_, rfl⟩
  have hfz : Fr [] w2 wz := by rw [hwz]; exact (Fr.refl _ _).alloc _
  have HOT : Hid (OT w1 wz (.slice (some ⟨w2.heap.size, 0, none⟩) 0 0) (.slice none 0 0) [] []) := Lib.hid ⟨⟨by rw [hwz]; exact own_base (own_empty w2 5) hf2.size, by simp, fun _ h => (List.not_mem_nil h).elim, hf2.trans hfz⟩, FrL.nil _ _⟩
  have HRS : Hid (RS w1.heap.size (otB (.slice (some ⟨w2.heap.size, 0, none⟩) 0 0) (.slice none 0 0) []) wz p (.slice none 0 0) (.slice none 0 0) [] [] 0) := Lib.hid ⟨hr2.keep hfz, fun i hi hm => by
    have h1 := hr2.lt i hi
    rcases otB_cases hm with h | h | ⟨_, h, _⟩
    · simp [Value.ownBlock] at h; omega
    · cases h
    · exact (List.not_mem_nil h).elim, hp⟩
  have hnl : 0 < w1.heap.size := nib_lt (nib_keep HN.out HF1.out)
  have HWZ := Lib.hid hwz
  clear hr2 hp hp2 hf2 hwz hfz
  go_upto_region 7 with fail
  rw [← HWZ.out]
  clear HWZ
  go_wp2_with fail
  go_loopw [4, 5, 6, 7, 8, 30] (fun fv gi ei bi av i wr => ∃ (k g : Nat) (FED : List UInt8) (Y X : List FI) (u v : Value), k ≤ n ∧ i = .int .i64 k ∧ gi = .int .i64 g ∧ ei = .int .i64 ((run FED).2.1 : Nat) ∧ bi = .int .i64 (run FED).2.2 ∧ OT w1 wr fv av FED Y ∧ RS w1.heap.size (otB fv av Y) wr p u v (restF FED) X (run FED).2.2 ∧ Y.map FI.fr = (run FED).1 ∧ X.map FI.fr = (run FED).1.drop g ∧ g ≤ (run FED).1.length ∧ FED.length ≤ k * 1048576) (fun _ _ _ _ _ i _ => n - (intOf i).toNat)
  case atStart => exact ⟨0, 0, [], [], [], _, _, by omega, rfl, rfl, by rw [run_nil]; rfl, by rw [run_nil], HOT.out, by unfold restF; rw [run_nil]; exact HRS.out, by rw [run_nil]; rfl, by rw [run_nil]; rfl, by omega, by simp⟩
  case round =>
    obtain ⟨k, g, FED, Y, X, u, v, hk, rfl, rfl, rfl, rfl, hot, hrs, hY, hX, hg, hFl⟩ := hrel
    by_cases hlt : k < n
    · obtain ⟨sb, so, rfl, c0, c1⟩ := (HF.out.keep (HF1.out.trans hot.fed.fr)).cell k hlt
      have HOK := Lib.hid ((HF.out).ok k hlt)
      have hkn : (k : Int) < (n : Int) := by omega
      obtain ⟨fa, fc, rfl⟩ := own_sl hot.fed.own
      obtain ⟨va, vc, rfl⟩ := own_sl hot.all.row
      obtain ⟨z, hz⟩ : ∃ z, z = (F k).z := ⟨_, rfl⟩
      obtain ⟨ca, hca⟩ : ∃ ca, ca = (F k).a := ⟨_, rfl⟩
      obtain ⟨cc, hcc⟩ : ∃ cc, cc = (F k).c := ⟨_, rfl⟩
      obtain ⟨ch, hch⟩ : ∃ ch, ch = (F k).d := ⟨_, rfl⟩
      have hchl : ch.length ≤ 1048576 := by rw [hch]; exact HS.out k hlt
      have HCB : Hid (Bytes w ca ch) := Lib.hid (by rw [hca, hch]; exact HOK.out.bytes)
      have HCN : Hid (ca = none → cc = 0) := Lib.hid (by rw [hca, hcc]; exact HOK.out.none)
      rw [← hz] at c0
      rw [← hca, ← hcc, ← hch] at c1
      replace c1 : wr.cell? ⟨sb, so + k * 2 + 1, none⟩ = some (.slice ca ch.length cc) := c1
      obtain ⟨hYl, hXl⟩ := rel_Y hY hX
      have hYL : Y.length ≤ 1099511627776 := by have := run_frames FED; omega
      have hgY : g ≤ Y.length := by omega
      obtain ⟨wb, hwb⟩ : ∃ wb, wb = wr.alloc (.cells #[.bool z, .slice ca ch.length cc] 58) := ⟨_, rfl⟩
      have hfb : Fr [] wr wb := by rw [hwb]; exact (Fr.refl _ _).alloc _
      have HFB := Lib.hid hfb
      have HBB := Lib.hid (show wb.heap[wr.heap.size]? = some (.cells #[.bool z, .slice ca ch.length cc] 58) by rw [hwb]; exact heap_alloc_new wr _)
      have HOTB := Lib.hid (hot.keep hfb)
      have HRSB := Lib.hid (hrs.keep hfb)
      have HRSW := Lib.hid hrs
      have HOTW := Lib.hid hot
      have HY := Lib.hid hY
      have HX := Lib.hid hX
      have HFW := Lib.hid (HF1.out.trans hot.fed.fr)
      have HWB := Lib.hid hwb
      have HYL := Lib.hid hYl
      have HXL := Lib.hid hXl
      obtain ⟨E, hE⟩ : ∃ E, E = (run FED).2.2 := ⟨_, rfl⟩
      obtain ⟨P, hP⟩ : ∃ P, P = (run FED).2.1 := ⟨_, rfl⟩
      rw [← hE] at HRSB HRSW
      rw [← hE, ← hP]
      have HE := Lib.hid hE
      have HP := Lib.hid hP
      have HG := Lib.hid hg
      have HFL2 : Hid (FED.length ≤ (k + 1) * 1048576) := Lib.hid (Nat.le_trans hFl (Nat.mul_le_mul_right 1048576 (Nat.le_succ k)))
      have hFL : FED.length ≤ 1099511627776 := by omega
      clear hot hrs hY hX hz hca hcc hch hwb hfb HOK hYl hXl hE hP hg
      obtain ⟨b0, b1⟩ := duo HBB.out
      go_upto_region 11 with fail
      rw [← HWB.out]
      clear HWB c0 c1
      cases z with
      | true =>
        go_upto_region 12 with fail
        cases X with
        | nil =>
          have hgl : g = Y.length := by have h := HXL.out; have := HYL.out; simp at h; omega
          have hnl2 : ¬ g < Y.length := by omega
          have HGL := Lib.hid hgl
          clear b0 b1 hgY hgl
          go_wp2_with fail
          refine (Next_none _ _ _ _ _ _ _ HRSB.out.rd).mono ?_
          rintro e wN ⟨rfl, hfN⟩
          have HFN := Lib.hid hfN
          have HS0 : Hid (∀ W, Calls Tryd.prog 16 #[.agg #[.int .i64 0, .slice none 0 0], .agg #[.int .i64 0, .slice none 0 0]] W fun e w' => e = .returned (.bool true) ∧ Fr [] W w') := Lib.hid (fun W => Same_any 0 0 none none 0 0 [] [] W (fun _ => rfl) (fun _ => rfl) (.inl rfl) (.inl rfl))
          have hbn : (wN.alloc (.cells #[.int .i64 0, .slice none 0 0] 25)).heap[wN.heap.size]? = some (.cells #[.int .i64 0, .slice none 0 0] 25) := heap_alloc_new wN _
          obtain ⟨n0, n1⟩ := duo hbn
          clear hfN hbn
          go_upto_region 13 with fail
          refine wp_region_held_drew (S := fun w' => w'.cell? ⟨wN.heap.size, 0, none⟩ = some (.int .i64 0) ∧ w'.cell? ⟨wN.heap.size, 1, none⟩ = some (.slice none 0 0)) (by kernel_rfl) (by exact ⟨n0, n1⟩) (fun hHeld => ?_)
          refine wpAnyH_take (i := 0) (v := ?_) rfl (by kernel_rfl) (by kernel_rfl) (by kernel_rfl) (fun _ _ _ h => h) (Or.inl ⟨by rfl, ?_⟩) (by assumption) ?_
          rotate_left
          · (intro w hSw; (try dsimp only at hSw); go_simp; (try with_reducible rfl))
          try simp only [Act.put, List.setIfInBounds_toArray, List.set_cons_zero, List.set_cons_succ, List.getElem_toArray, List.getElem_cons_zero, List.getElem_cons_succ]
          refine wpAnyH_take (i := 1) (v := ?_) rfl (by kernel_rfl) (by kernel_rfl) (by kernel_rfl) (fun _ _ _ h => h) (Or.inl ⟨by rfl, ?_⟩) (by assumption) ?_
          rotate_left
          · (intro w hSw; (try dsimp only at hSw); go_simp; (try with_reducible rfl))
          try simp only [Act.put, List.setIfInBounds_toArray, List.set_cons_zero, List.set_cons_succ, List.getElem_toArray, List.getElem_cons_zero, List.getElem_cons_succ]
          refine wpAnyH_take (i := 2) (v := ?_) rfl (by kernel_rfl) (by kernel_rfl) (by kernel_rfl) (fun _ _ _ h => h) (Or.inl ⟨by rfl, ?_⟩) (by assumption) ?_
          rotate_left
          · (intro w hSw; (try dsimp only at hSw); go_simp; (try with_reducible rfl))
          try simp only [Act.put, List.setIfInBounds_toArray, List.set_cons_zero, List.set_cons_succ, List.getElem_toArray, List.getElem_cons_zero, List.getElem_cons_succ]
          refine wpAnyH_take (i := 3) (v := ?_) rfl (by kernel_rfl) (by kernel_rfl) (by kernel_rfl) (fun _ _ _ h => h) (Or.inl ⟨by rfl, ?_⟩) (by assumption) ?_
          rotate_left
          · (intro w hSw; (try dsimp only at hSw); go_simp; (try with_reducible rfl))
          try simp only [Act.put, List.setIfInBounds_toArray, List.set_cons_zero, List.set_cons_succ, List.getElem_toArray, List.getElem_cons_zero, List.getElem_cons_succ]
          refine wpAnyH_take (i := 4) (v := ?_) rfl (by kernel_rfl) (by kernel_rfl) (by kernel_rfl) (fun _ _ _ h => h) (Or.inl ⟨by rfl, ?_⟩) (by assumption) ?_
          rotate_left
          · (intro w hSw; (try dsimp only at hSw); go_simp; (try with_reducible rfl))
          try simp only [Act.put, List.setIfInBounds_toArray, List.set_cons_zero, List.set_cons_succ, List.getElem_toArray, List.getElem_cons_zero, List.getElem_cons_succ]
          refine wpAnyH_take (i := 5) (v := ?_) rfl (by kernel_rfl) (by kernel_rfl) (by kernel_rfl) (fun _ _ _ h => h) (Or.inl ⟨by rfl, ?_⟩) (by assumption) ?_
          rotate_left
          · (intro w hSw; (try dsimp only at hSw); go_simp; (try with_reducible rfl))
          try simp only [Act.put, List.setIfInBounds_toArray, List.set_cons_zero, List.set_cons_succ, List.getElem_toArray, List.getElem_cons_zero, List.getElem_cons_succ]
          refine wpAnyH_take (i := 6) (v := ?_) rfl (by kernel_rfl) (by kernel_rfl) (by kernel_rfl) (fun _ _ _ h => h) (Or.inl ⟨by rfl, ?_⟩) (by assumption) ?_
          rotate_left
          · (intro w hSw; (try dsimp only at hSw); go_simp; (try with_reducible rfl))
          try simp only [Act.put, List.setIfInBounds_toArray, List.set_cons_zero, List.set_cons_succ, List.getElem_toArray, List.getElem_cons_zero, List.getElem_cons_succ]
          refine wpAnyH_take (i := 7) (v := ?_) rfl (by kernel_rfl) (by kernel_rfl) (by kernel_rfl) (fun _ _ _ h => h) (Or.inl ⟨by rfl, ?_⟩) (by assumption) ?_
          rotate_left
          · (intro w hSw; (try dsimp only at hSw); go_simp; (try with_reducible rfl))
          try simp only [Act.put, List.setIfInBounds_toArray, List.set_cons_zero, List.set_cons_succ, List.getElem_toArray, List.getElem_cons_zero, List.getElem_cons_succ]
          refine wpAnyH_take (i := 8) (v := ?_) rfl (by kernel_rfl) (by kernel_rfl) (by kernel_rfl) (fun _ _ _ h => h) (Or.inl ⟨by rfl, ?_⟩) (by assumption) ?_
          rotate_left
          · (intro w hSw; (try dsimp only at hSw); go_simp; (try with_reducible rfl))
          try simp only [Act.put, List.setIfInBounds_toArray, List.set_cons_zero, List.set_cons_succ, List.getElem_toArray, List.getElem_cons_zero, List.getElem_cons_succ]
          refine wpAnyH_take (i := 9) (v := undef) rfl (by kernel_rfl) (by kernel_rfl) (by kernel_rfl) (fun _ _ _ h => h) (Or.inr ⟨by rfl, rfl⟩) (by assumption) ?_
          try simp only [Act.put, List.setIfInBounds_toArray, List.set_cons_zero, List.set_cons_succ, List.getElem_toArray, List.getElem_cons_zero, List.getElem_cons_succ]
          refine wpAnyH_take (i := 10) (v := undef) rfl (by kernel_rfl) (by kernel_rfl) (by kernel_rfl) (fun _ _ _ h => h) (Or.inr ⟨by rfl, rfl⟩) (by assumption) ?_
          try simp only [Act.put, List.setIfInBounds_toArray, List.set_cons_zero, List.set_cons_succ, List.getElem_toArray, List.getElem_cons_zero, List.getElem_cons_succ]
          refine wpAnyH_take (i := 11) (v := undef) rfl (by kernel_rfl) (by kernel_rfl) (by kernel_rfl) (fun _ _ _ h => h) (Or.inr ⟨by rfl, rfl⟩) (by assumption) ?_
          try simp only [Act.put, List.setIfInBounds_toArray, List.set_cons_zero, List.set_cons_succ, List.getElem_toArray, List.getElem_cons_zero, List.getElem_cons_succ]
          refine wpAnyH_take (i := 12) (v := undef) rfl (by kernel_rfl) (by kernel_rfl) (by kernel_rfl) (fun _ _ _ h => h) (Or.inr ⟨by rfl, rfl⟩) (by assumption) ?_
          try simp only [Act.put, List.setIfInBounds_toArray, List.set_cons_zero, List.set_cons_succ, List.getElem_toArray, List.getElem_cons_zero, List.getElem_cons_succ]
          refine wpAnyH_take (i := 13) (v := undef) rfl (by kernel_rfl) (by kernel_rfl) (by kernel_rfl) (fun _ _ _ h => h) (Or.inr ⟨by rfl, rfl⟩) (by assumption) ?_
          try simp only [Act.put, List.setIfInBounds_toArray, List.set_cons_zero, List.set_cons_succ, List.getElem_toArray, List.getElem_cons_zero, List.getElem_cons_succ]
          refine wpAnyH_take (i := 14) (v := undef) rfl (by kernel_rfl) (by kernel_rfl) (by kernel_rfl) (fun _ _ _ h => h) (Or.inr ⟨by rfl, rfl⟩) (by assumption) ?_
          try simp only [Act.put, List.setIfInBounds_toArray, List.set_cons_zero, List.set_cons_succ, List.getElem_toArray, List.getElem_cons_zero, List.getElem_cons_succ]
          refine wpAnyH_take (i := 15) (v := undef) rfl (by kernel_rfl) (by kernel_rfl) (by kernel_rfl) (fun _ _ _ h => h) (Or.inr ⟨by rfl, rfl⟩) (by assumption) ?_
          try simp only [Act.put, List.setIfInBounds_toArray, List.set_cons_zero, List.set_cons_succ, List.getElem_toArray, List.getElem_cons_zero, List.getElem_cons_succ]
          refine wpAnyH_take (i := 16) (v := ?_) rfl (by kernel_rfl) (by kernel_rfl) (by kernel_rfl) (fun _ _ _ h => h) (Or.inl ⟨by rfl, ?_⟩) (by assumption) ?_
          rotate_left
          · (intro w hSw; (try dsimp only at hSw); go_simp; (try with_reducible rfl))
          try simp only [Act.put, List.setIfInBounds_toArray, List.set_cons_zero, List.set_cons_succ, List.getElem_toArray, List.getElem_cons_zero, List.getElem_cons_succ]
          refine wpAnyH_take (i := 17) (v := ?_) rfl (by kernel_rfl) (by kernel_rfl) (by kernel_rfl) (fun _ _ _ h => h) (Or.inl ⟨by rfl, ?_⟩) (by assumption) ?_
          rotate_left
          · (intro w hSw; (try dsimp only at hSw); go_simp; (try with_reducible rfl))
          try simp only [Act.put, List.setIfInBounds_toArray, List.set_cons_zero, List.set_cons_succ, List.getElem_toArray, List.getElem_cons_zero, List.getElem_cons_succ]
          refine wpAnyH_take (i := 18) (v := ?_) rfl (by kernel_rfl) (by kernel_rfl) (by kernel_rfl) (fun _ _ _ h => h) (Or.inl ⟨by rfl, ?_⟩) (by assumption) ?_
          rotate_left
          · (intro w hSw; (try dsimp only at hSw); go_simp; (try with_reducible rfl))
          try simp only [Act.put, List.setIfInBounds_toArray, List.set_cons_zero, List.set_cons_succ, List.getElem_toArray, List.getElem_cons_zero, List.getElem_cons_succ]
          refine wpAnyH_take (i := 19) (v := ?_) rfl (by kernel_rfl) (by kernel_rfl) (by kernel_rfl) (fun _ _ _ h => h) (Or.inl ⟨by rfl, ?_⟩) (by assumption) ?_
          rotate_left
          · (intro w hSw; (try dsimp only at hSw); go_simp; (try with_reducible rfl))
          try simp only [Act.put, List.setIfInBounds_toArray, List.set_cons_zero, List.set_cons_succ, List.getElem_toArray, List.getElem_cons_zero, List.getElem_cons_succ]
          refine wpAnyH_take (i := 20) (v := ?_) rfl (by kernel_rfl) (by kernel_rfl) (by kernel_rfl) (fun _ _ _ h => h) (Or.inl ⟨by rfl, ?_⟩) (by assumption) ?_
          rotate_left
          · (intro w hSw; (try dsimp only at hSw); go_simp; (try with_reducible rfl))
          try simp only [Act.put, List.setIfInBounds_toArray, List.set_cons_zero, List.set_cons_succ, List.getElem_toArray, List.getElem_cons_zero, List.getElem_cons_succ]
          refine wpAnyH_take (i := 21) (v := ?_) rfl (by kernel_rfl) (by kernel_rfl) (by kernel_rfl) (fun _ _ _ h => h) (Or.inl ⟨by rfl, ?_⟩) (by assumption) ?_
          rotate_left
          · (intro w hSw; (try dsimp only at hSw); go_simp; (try with_reducible rfl))
          try simp only [Act.put, List.setIfInBounds_toArray, List.set_cons_zero, List.set_cons_succ, List.getElem_toArray, List.getElem_cons_zero, List.getElem_cons_succ]
          refine wpAnyH_take (i := 22) (v := ?_) rfl (by kernel_rfl) (by kernel_rfl) (by kernel_rfl) (fun _ _ _ h => h) (Or.inl ⟨by rfl, ?_⟩) (by assumption) ?_
          rotate_left
          · (intro w hSw; (try dsimp only at hSw); go_simp; (try with_reducible rfl))
          try simp only [Act.put, List.setIfInBounds_toArray, List.set_cons_zero, List.set_cons_succ, List.getElem_toArray, List.getElem_cons_zero, List.getElem_cons_succ]
          refine wpAnyH_take (i := 23) (v := ?_) rfl (by kernel_rfl) (by kernel_rfl) (by kernel_rfl) (fun _ _ _ h => h) (Or.inl ⟨by rfl, ?_⟩) (by assumption) ?_
          rotate_left
          · (intro w hSw; (try dsimp only at hSw); go_simp; (try with_reducible rfl))
          try simp only [Act.put, List.setIfInBounds_toArray, List.set_cons_zero, List.set_cons_succ, List.getElem_toArray, List.getElem_cons_zero, List.getElem_cons_succ]
          refine wpAnyH_ready (rs := [24]) (by kernel_rfl) (by simp) ?_
          refine AllReadyH.cons rfl (fun K hK => ?_) AllReadyH.nil
          go_simp
          refine (HS0.out _).mono ?_
          rintro e wA ⟨rfl, hA⟩
          go_simp
          refine hK.out _ _ (by exact ⟨hA.cell n0 (by simp), hA.cell n1 (by simp)⟩) (fun hHeld => ?_)
          clear hK K
          try simp only [Act.put, List.setIfInBounds_toArray, List.set_cons_zero, List.set_cons_succ, List.getElem_toArray, List.getElem_cons_zero, List.getElem_cons_succ]
          refine wpAnyH_take (i := 25) (v := ?_) rfl (by kernel_rfl) (by kernel_rfl) (by kernel_rfl) (fun _ _ _ h => h) (Or.inl ⟨by rfl, ?_⟩) (by assumption) ?_
          rotate_left
          · (intro w hSw; (try dsimp only at hSw); go_simp; (try with_reducible rfl))
          try simp only [Act.put, List.setIfInBounds_toArray, List.set_cons_zero, List.set_cons_succ, List.getElem_toArray, List.getElem_cons_zero, List.getElem_cons_succ]
          refine wpAnyH_take (i := 26) (v := ?_) rfl (by kernel_rfl) (by kernel_rfl) (by kernel_rfl) (fun _ _ _ h => h) (Or.inl ⟨by rfl, ?_⟩) (by assumption) ?_
          rotate_left
          · (intro w hSw; (try dsimp only at hSw); go_simp; (try with_reducible rfl))
          try simp only [Act.put, List.setIfInBounds_toArray, List.set_cons_zero, List.set_cons_succ, List.getElem_toArray, List.getElem_cons_zero, List.getElem_cons_succ]
          refine wpAnyH_take (i := 27) (v := ?_) rfl (by kernel_rfl) (by kernel_rfl) (by kernel_rfl) (fun _ _ _ h => h) (Or.inl ⟨by rfl, ?_⟩) (by assumption) ?_
          rotate_left
          · (intro w hSw; (try dsimp only at hSw); go_simp; (try with_reducible rfl))
          try simp only [Act.put, List.setIfInBounds_toArray, List.set_cons_zero, List.set_cons_succ, List.getElem_toArray, List.getElem_cons_zero, List.getElem_cons_succ]
          refine wpAnyH_done (by kernel_rfl) ?_ _
          go_wp2
          have hfA : Fr [] wb wA := ((HFN.out.alloc _).drew).trans hA
          have hR2 := HRSB.out.keep hfA
          have hO2 := HOTB.out.keep hfA
          refine ⟨⟨k + 1, g, FED, Y, [], u, v, by omega, by go_num, rfl, ?_, ?_, hO2, ?_, HY.out, HX.out, HG.out, HFL2.out⟩, by simp [intOf]; omega⟩
          · rw [HP.out]
          · rw [HE.out]
          · have h := HE.out
            rw [← h]
            exact hR2
        | cons x XS =>
          obtain ⟨hgY2, et, ed, hXS⟩ := rel_get HY.out HX.out
          obtain ⟨y, hy⟩ : ∃ y, y = Y[g] := ⟨_, rfl⟩
          rw [← hy] at et ed
          obtain ⟨gv, rfl, _⟩ := own_pos HOTB.out.all.row (by omega)
          obtain ⟨gx1, gx2⟩ := fiCells_get Y g hgY2
          rw [← hy] at gx1 gx2
          have rX := OwnO.of HOTB.out.all.row
          have c1 : wb.cell? ⟨gv, g * 2, none⟩ = some (.int .i64 (I8 y.t)) := by have h := (rX.cell (g * 2) (by rw [fiCells_length]; omega)).1; rw [gx1, Nat.zero_add] at h; exact h
          have c2 : wb.cell? ⟨gv, g * 2 + 1, none⟩ = some (.slice y.a y.d.length y.c) := by have h := (rX.cell (g * 2 + 1) (by rw [fiCells_length]; omega)).1; rw [gx2, Nat.zero_add] at h; exact h
          have HC1 := Lib.hid c1
          have HC2 := Lib.hid c2
          have HYD := Lib.hid (HOTB.out.all.dat y (by rw [hy]; exact List.getElem_mem _))
          have HET := Lib.hid et
          have HED := Lib.hid ed
          have HXS := Lib.hid hXS
          have HGO : Hid (∀ i, (Value.slice (some ⟨gv, 0, none⟩) Y.length vc).ownBlock = some i → i ∈ otB (.slice fa FED.length fc) (.slice (some ⟨gv, 0, none⟩) Y.length vc) Y) := Lib.hid fun i hi => otB_a hi
          have HYO : Hid (∀ i, y.v.ownBlock = some i → i ∈ otB (.slice fa FED.length fc) (.slice (some ⟨gv, 0, none⟩) Y.length vc) Y) := Lib.hid fun i hi => otB_y (by rw [hy]; exact List.getElem_mem _) hi
          have HXD := Lib.hid (HRSB.out.rd.ready.dat x List.mem_cons_self)
          clear b0 b1 hgY et ed hXS hy gx1 gx2 rX c1 c2
          go_wp2_with fail
          refine (HRSB.out.next).mono ?_
          rintro e wN ⟨rfl, vN, hrN, hoN, hxN, hfN, hpN⟩
          have hgp : gv ≠ p := fun e => hpN (e ▸ HGO.out gv rfl)
          have hbn : (wN.alloc (.cells #[.int .i64 (I8 x.t), .slice x.a x.d.length x.c] 25)).heap[wN.heap.size]? = some (.cells #[.int .i64 (I8 x.t), .slice x.a x.d.length x.c] 25) := heap_alloc_new wN _
          obtain ⟨n0, n1⟩ := duo hbn
          have hfM : Fr [p] wb (wN.alloc (.cells #[.int .i64 (I8 x.t), .slice x.a x.d.length x.c] 25)).drew := (hfN.alloc _).drew
          have n2 := hfM.cell HC1.out (by simp; exact hgp)
          have n3 := hfM.cell HC2.out (by simp; exact hgp)
          have HS0 : Hid (∀ W, Fr [] (wN.alloc (.cells #[.int .i64 (I8 x.t), .slice x.a x.d.length x.c] 25)).drew W → Calls Tryd.prog 16 #[.agg #[.int .i64 (I8 x.t), .slice x.a x.d.length x.c], .agg #[.int .i64 (I8 y.t), .slice y.a y.d.length y.c]] W fun e w' => e = .returned (.bool true) ∧ Fr [] W w') := Lib.hid (fun W hW => by
            have h := Same_any (I8 x.t) (I8 y.t) x.a y.a x.c y.c x.d y.d W (spl_none HXD.out) (spl_none HYD.out) ((own_by (own_fr (own_fr hoN (((Fr.refl [] wN).alloc _).drew) (by simp)) hW (by simp))).1) ((own_by (own_fr (own_fr HYD.out hfM (fun i hi hm => hpN (by simp at hm; exact hm ▸ HYO.out i hi))) hW (by simp))).1)
            rw [HET.out, HED.out, beq_self_eq_true, beq_self_eq_true] at h
            rw [HET.out, HED.out]
            exact h)
          have hgYi : (g : Int) < (Y.length : Int) := by omega
          obtain ⟨T, hT⟩ : ∃ T, T = x.v.ownBlock.toList := ⟨_, rfl⟩
          rw [← hT] at hrN
          have HTT := Lib.hid hT
          have HRN := Lib.hid hrN
          have HON := Lib.hid hoN
          have HXN := Lib.hid hxN
          have HFN := Lib.hid hfN
          have HPN := Lib.hid hpN
          have HFM := Lib.hid hfM
          have HBN := Lib.hid hbn
          clear hT hrN hoN hxN hfN hpN hfM hbn
          go_upto_region 13 with fail
          refine wp_region_held_drew (S := fun w' => w'.cell? ⟨wN.heap.size, 0, none⟩ = some (.int .i64 (I8 x.t)) ∧ w'.cell? ⟨wN.heap.size, 1, none⟩ = some (.slice x.a x.d.length x.c) ∧ w'.cell? ⟨gv, g * 2, none⟩ = some (.int .i64 (I8 y.t)) ∧ w'.cell? ⟨gv, g * 2 + 1, none⟩ = some (.slice y.a y.d.length y.c)) (by kernel_rfl) (by exact ⟨n0, n1, n2, n3⟩) (fun hHeld => ?_)
          refine wpAnyH_take (i := 0) (v := ?_) rfl (by kernel_rfl) (by kernel_rfl) (by kernel_rfl) (fun _ _ _ h => h) (Or.inl ⟨by rfl, ?_⟩) (by assumption) ?_
          rotate_left
          · (intro w hSw; (try dsimp only at hSw); go_simp; (try with_reducible rfl))
          try simp only [Act.put, List.setIfInBounds_toArray, List.set_cons_zero, List.set_cons_succ, List.getElem_toArray, List.getElem_cons_zero, List.getElem_cons_succ]
          refine wpAnyH_take (i := 1) (v := ?_) rfl (by kernel_rfl) (by kernel_rfl) (by kernel_rfl) (fun _ _ _ h => h) (Or.inl ⟨by rfl, ?_⟩) (by assumption) ?_
          rotate_left
          · (intro w hSw; (try dsimp only at hSw); go_simp; (try with_reducible rfl))
          try simp only [Act.put, List.setIfInBounds_toArray, List.set_cons_zero, List.set_cons_succ, List.getElem_toArray, List.getElem_cons_zero, List.getElem_cons_succ]
          refine wpAnyH_take (i := 2) (v := ?_) rfl (by kernel_rfl) (by kernel_rfl) (by kernel_rfl) (fun _ _ _ h => h) (Or.inl ⟨by rfl, ?_⟩) (by assumption) ?_
          rotate_left
          · (intro w hSw; (try dsimp only at hSw); go_simp; (try with_reducible rfl))
          try simp only [Act.put, List.setIfInBounds_toArray, List.set_cons_zero, List.set_cons_succ, List.getElem_toArray, List.getElem_cons_zero, List.getElem_cons_succ]
          refine wpAnyH_take (i := 3) (v := ?_) rfl (by kernel_rfl) (by kernel_rfl) (by kernel_rfl) (fun _ _ _ h => h) (Or.inl ⟨by rfl, ?_⟩) (by assumption) ?_
          rotate_left
          · (intro w hSw; (try dsimp only at hSw); go_simp; (try with_reducible rfl))
          try simp only [Act.put, List.setIfInBounds_toArray, List.set_cons_zero, List.set_cons_succ, List.getElem_toArray, List.getElem_cons_zero, List.getElem_cons_succ]
          refine wpAnyH_take (i := 4) (v := ?_) rfl (by kernel_rfl) (by kernel_rfl) (by kernel_rfl) (fun _ _ _ h => h) (Or.inl ⟨by rfl, ?_⟩) (by assumption) ?_
          rotate_left
          · (intro w hSw; (try dsimp only at hSw); go_simp; (try with_reducible rfl))
          try simp only [Act.put, List.setIfInBounds_toArray, List.set_cons_zero, List.set_cons_succ, List.getElem_toArray, List.getElem_cons_zero, List.getElem_cons_succ]
          refine wpAnyH_take (i := 5) (v := ?_) rfl (by kernel_rfl) (by kernel_rfl) (by kernel_rfl) (fun _ _ _ h => h) (Or.inl ⟨by rfl, ?_⟩) (by assumption) ?_
          rotate_left
          · (intro w hSw; (try dsimp only at hSw); go_simp; (try with_reducible rfl))
          try simp only [Act.put, List.setIfInBounds_toArray, List.set_cons_zero, List.set_cons_succ, List.getElem_toArray, List.getElem_cons_zero, List.getElem_cons_succ]
          refine wpAnyH_take (i := 6) (v := ?_) rfl (by kernel_rfl) (by kernel_rfl) (by kernel_rfl) (fun _ _ _ h => h) (Or.inl ⟨by rfl, ?_⟩) (by assumption) ?_
          rotate_left
          · (intro w hSw; (try dsimp only at hSw); go_simp; (try with_reducible rfl))
          try simp only [Act.put, List.setIfInBounds_toArray, List.set_cons_zero, List.set_cons_succ, List.getElem_toArray, List.getElem_cons_zero, List.getElem_cons_succ]
          refine wpAnyH_take (i := 7) (v := ?_) rfl (by kernel_rfl) (by kernel_rfl) (by kernel_rfl) (fun _ _ _ h => h) (Or.inl ⟨by rfl, ?_⟩) (by assumption) ?_
          rotate_left
          · (intro w hSw; (try dsimp only at hSw); go_simp; (try with_reducible rfl))
          try simp only [Act.put, List.setIfInBounds_toArray, List.set_cons_zero, List.set_cons_succ, List.getElem_toArray, List.getElem_cons_zero, List.getElem_cons_succ]
          refine wpAnyH_take (i := 8) (v := ?_) rfl (by kernel_rfl) (by kernel_rfl) (by kernel_rfl) (fun _ _ _ h => h) (Or.inl ⟨by rfl, ?_⟩) (by assumption) ?_
          rotate_left
          · (intro w hSw; (try dsimp only at hSw); go_simp; (try with_reducible rfl))
          try simp only [Act.put, List.setIfInBounds_toArray, List.set_cons_zero, List.set_cons_succ, List.getElem_toArray, List.getElem_cons_zero, List.getElem_cons_succ]
          refine wpAnyH_take (i := 9) (v := ?_) rfl (by kernel_rfl) (by kernel_rfl) (by kernel_rfl) (fun _ _ _ h => h) (Or.inl ⟨by rfl, ?_⟩) (by assumption) ?_
          rotate_left
          · (intro w hSw; (try dsimp only at hSw); go_simp; (try with_reducible rfl))
          try simp only [Act.put, List.setIfInBounds_toArray, List.set_cons_zero, List.set_cons_succ, List.getElem_toArray, List.getElem_cons_zero, List.getElem_cons_succ]
          refine wpAnyH_take (i := 10) (v := ?_) rfl (by kernel_rfl) (by kernel_rfl) (by kernel_rfl) (fun _ _ _ h => h) (Or.inl ⟨by rfl, ?_⟩) (by assumption) ?_
          rotate_left
          · (intro w hSw; (try dsimp only at hSw); go_simp; (try with_reducible rfl))
          try simp only [Act.put, List.setIfInBounds_toArray, List.set_cons_zero, List.set_cons_succ, List.getElem_toArray, List.getElem_cons_zero, List.getElem_cons_succ]
          refine wpAnyH_take (i := 11) (v := ?_) rfl (by kernel_rfl) (by kernel_rfl) (by kernel_rfl) (fun _ _ _ h => h) (Or.inl ⟨by rfl, ?_⟩) (by assumption) ?_
          rotate_left
          · (intro w hSw; (try dsimp only at hSw); go_simp; (try with_reducible rfl))
          try simp only [Act.put, List.setIfInBounds_toArray, List.set_cons_zero, List.set_cons_succ, List.getElem_toArray, List.getElem_cons_zero, List.getElem_cons_succ]
          refine wpAnyH_take (i := 12) (v := ?_) rfl (by kernel_rfl) (by kernel_rfl) (by kernel_rfl) (fun _ _ _ h => h) (Or.inl ⟨by rfl, ?_⟩) (by assumption) ?_
          rotate_left
          · (intro w hSw; (try dsimp only at hSw); go_simp; (try with_reducible rfl))
          try simp only [Act.put, List.setIfInBounds_toArray, List.set_cons_zero, List.set_cons_succ, List.getElem_toArray, List.getElem_cons_zero, List.getElem_cons_succ]
          refine wpAnyH_take (i := 13) (v := ?_) rfl (by kernel_rfl) (by kernel_rfl) (by kernel_rfl) (fun _ _ _ h => h) (Or.inl ⟨by rfl, ?_⟩) (by assumption) ?_
          rotate_left
          · (intro w hSw; (try dsimp only at hSw); go_simp; (try with_reducible rfl))
          try simp only [Act.put, List.setIfInBounds_toArray, List.set_cons_zero, List.set_cons_succ, List.getElem_toArray, List.getElem_cons_zero, List.getElem_cons_succ]
          refine wpAnyH_ready (rs := [14]) (by kernel_rfl) (by simp) ?_
          refine AllReadyH.cons rfl (fun K hK => ?_) AllReadyH.nil
          go_simp
          refine (HS0.out _ (Fr.refl [] _)).mono ?_
          rintro e wA ⟨rfl, hA⟩
          go_simp
          refine hK.out _ _ (by exact ⟨hA.cell n0 (by simp), hA.cell n1 (by simp), hA.cell n2 (by simp), hA.cell n3 (by simp)⟩) (fun hHeld => ?_)
          clear hK K
          try simp only [Act.put, List.setIfInBounds_toArray, List.set_cons_zero, List.set_cons_succ, List.getElem_toArray, List.getElem_cons_zero, List.getElem_cons_succ]
          refine wpAnyH_take (i := 15) (v := ?_) rfl (by kernel_rfl) (by kernel_rfl) (by kernel_rfl) (fun _ _ _ h => h) (Or.inl ⟨by rfl, ?_⟩) (by assumption) ?_
          rotate_left
          · (intro w hSw; (try dsimp only at hSw); go_simp; (try with_reducible rfl))
          try simp only [Act.put, List.setIfInBounds_toArray, List.set_cons_zero, List.set_cons_succ, List.getElem_toArray, List.getElem_cons_zero, List.getElem_cons_succ]
          refine wpAnyH_take (i := 16) (v := ?_) rfl (by kernel_rfl) (by kernel_rfl) (by kernel_rfl) (fun _ _ _ h => h) (Or.inl ⟨by rfl, ?_⟩) (by assumption) ?_
          rotate_left
          · (intro w hSw; (try dsimp only at hSw); go_simp; (try with_reducible rfl))
          try simp only [Act.put, List.setIfInBounds_toArray, List.set_cons_zero, List.set_cons_succ, List.getElem_toArray, List.getElem_cons_zero, List.getElem_cons_succ]
          refine wpAnyH_take (i := 17) (v := ?_) rfl (by kernel_rfl) (by kernel_rfl) (by kernel_rfl) (fun _ _ _ h => h) (Or.inl ⟨by rfl, ?_⟩) (by assumption) ?_
          rotate_left
          · (intro w hSw; (try dsimp only at hSw); go_simp; (try with_reducible rfl))
          try simp only [Act.put, List.setIfInBounds_toArray, List.set_cons_zero, List.set_cons_succ, List.getElem_toArray, List.getElem_cons_zero, List.getElem_cons_succ]
          refine wpAnyH_take (i := 18) (v := ?_) rfl (by kernel_rfl) (by kernel_rfl) (by kernel_rfl) (fun _ _ _ h => h) (Or.inl ⟨by rfl, ?_⟩) (by assumption) ?_
          rotate_left
          · (intro w hSw; (try dsimp only at hSw); go_simp; (try with_reducible rfl))
          try simp only [Act.put, List.setIfInBounds_toArray, List.set_cons_zero, List.set_cons_succ, List.getElem_toArray, List.getElem_cons_zero, List.getElem_cons_succ]
          refine wpAnyH_take (i := 19) (v := ?_) rfl (by kernel_rfl) (by kernel_rfl) (by kernel_rfl) (fun _ _ _ h => h) (Or.inl ⟨by rfl, ?_⟩) (by assumption) ?_
          rotate_left
          · (intro w hSw; (try dsimp only at hSw); go_simp; (try with_reducible rfl))
          try simp only [Act.put, List.setIfInBounds_toArray, List.set_cons_zero, List.set_cons_succ, List.getElem_toArray, List.getElem_cons_zero, List.getElem_cons_succ]
          refine wpAnyH_take (i := 20) (v := ?_) rfl (by kernel_rfl) (by kernel_rfl) (by kernel_rfl) (fun _ _ _ h => h) (Or.inl ⟨by rfl, ?_⟩) (by assumption) ?_
          rotate_left
          · (intro w hSw; (try dsimp only at hSw); go_simp; (try with_reducible rfl))
          try simp only [Act.put, List.setIfInBounds_toArray, List.set_cons_zero, List.set_cons_succ, List.getElem_toArray, List.getElem_cons_zero, List.getElem_cons_succ]
          refine wpAnyH_take (i := 21) (v := ?_) rfl (by kernel_rfl) (by kernel_rfl) (by kernel_rfl) (fun _ _ _ h => h) (Or.inl ⟨by rfl, ?_⟩) (by assumption) ?_
          rotate_left
          · (intro w hSw; (try dsimp only at hSw); go_simp; (try with_reducible rfl))
          try simp only [Act.put, List.setIfInBounds_toArray, List.set_cons_zero, List.set_cons_succ, List.getElem_toArray, List.getElem_cons_zero, List.getElem_cons_succ]
          refine wpAnyH_take (i := 22) (v := undef) rfl (by kernel_rfl) (by kernel_rfl) (by kernel_rfl) (fun _ _ _ h => h) (Or.inr ⟨by rfl, rfl⟩) (by assumption) ?_
          try simp only [Act.put, List.setIfInBounds_toArray, List.set_cons_zero, List.set_cons_succ, List.getElem_toArray, List.getElem_cons_zero, List.getElem_cons_succ]
          refine wpAnyH_take (i := 23) (v := undef) rfl (by kernel_rfl) (by kernel_rfl) (by kernel_rfl) (fun _ _ _ h => h) (Or.inr ⟨by rfl, rfl⟩) (by assumption) ?_
          try simp only [Act.put, List.setIfInBounds_toArray, List.set_cons_zero, List.set_cons_succ, List.getElem_toArray, List.getElem_cons_zero, List.getElem_cons_succ]
          refine wpAnyH_take (i := 24) (v := undef) rfl (by kernel_rfl) (by kernel_rfl) (by kernel_rfl) (fun _ _ _ h => h) (Or.inr ⟨by rfl, rfl⟩) (by assumption) ?_
          try simp only [Act.put, List.setIfInBounds_toArray, List.set_cons_zero, List.set_cons_succ, List.getElem_toArray, List.getElem_cons_zero, List.getElem_cons_succ]
          refine wpAnyH_take (i := 25) (v := undef) rfl (by kernel_rfl) (by kernel_rfl) (by kernel_rfl) (fun _ _ _ h => h) (Or.inr ⟨by rfl, rfl⟩) (by assumption) ?_
          try simp only [Act.put, List.setIfInBounds_toArray, List.set_cons_zero, List.set_cons_succ, List.getElem_toArray, List.getElem_cons_zero, List.getElem_cons_succ]
          refine wpAnyH_take (i := 26) (v := ?_) rfl (by kernel_rfl) (by kernel_rfl) (by kernel_rfl) (fun _ _ _ h => h) (Or.inl ⟨by rfl, ?_⟩) (by assumption) ?_
          rotate_left
          · (intro w hSw; (try dsimp only at hSw); go_simp; (try with_reducible rfl))
          try simp only [Act.put, List.setIfInBounds_toArray, List.set_cons_zero, List.set_cons_succ, List.getElem_toArray, List.getElem_cons_zero, List.getElem_cons_succ]
          refine wpAnyH_take (i := 27) (v := ?_) rfl (by kernel_rfl) (by kernel_rfl) (by kernel_rfl) (fun _ _ _ h => h) (Or.inl ⟨by rfl, ?_⟩) (by assumption) ?_
          rotate_left
          · (intro w hSw; (try dsimp only at hSw); go_simp; (try with_reducible rfl))
          try simp only [Act.put, List.setIfInBounds_toArray, List.set_cons_zero, List.set_cons_succ, List.getElem_toArray, List.getElem_cons_zero, List.getElem_cons_succ]
          refine wpAnyH_done (by kernel_rfl) ?_ _
          have HHA := Lib.hid hA
          clear hA
          clear n0 n1 n2 n3
          obtain ⟨n0, n1⟩ := duo (HHA.out.obj (((Fr.refl [] _).drew).obj HBN.out (by simp)) (by simp))
          have HB3 := Lib.hid (HHA.out.obj (((Fr.refl [] _).drew).obj HBN.out (by simp)) (by simp))
          go_wp2_with fail
          obtain ⟨xa, hxa⟩ : ∃ xa, xa = x.a := ⟨_, rfl⟩
          obtain ⟨xc, hxc⟩ : ∃ xc, xc = x.c := ⟨_, rfl⟩
          obtain ⟨xl, hxl⟩ : ∃ xl, xl = x.d.length := ⟨_, rfl⟩
          have hxT : T = (Value.slice xa xl xc).ownBlock.toList := by rw [HTT.out, hxa, hxc, hxl]; rfl
          have hOB : OwnB wA w1.heap.size (.slice xa xl xc) xl := by
            have h := OwnB.of (own_fr (own_fr HON.out (((Fr.refl [] wN).alloc (.cells #[.int .i64 (I8 x.t), .slice x.a x.d.length x.c] 25)).drew) (by simp)) HHA.out (by simp))
            rw [hxa, hxc, hxl]; exact h
          have hxn : ∀ i ∈ T, i < wN.heap.size := by
            intro i hi
            rw [HTT.out] at hi
            exact (own_lt HON.out (by simpa using hi)).2
          have HXT := Lib.hid hxT
          have HOB := Lib.hid hOB
          have HXNT := Lib.hid hxn
          rw [← hxa, ← hxc, ← hxl] at n1 HB3 ⊢
          have hxl2 : xl ≤ 9223372036854775807 := by rw [hxl]; exact own_max HXD.out
          clear hxa hxc hxl hxT hOB hxn n0 n1
          go_loopw [75] (fun i wr2 => ∃ j : Nat, j ≤ xl ∧ i = .int .i64 j ∧ Fr T wA wr2 ∧ OwnB wr2 w1.heap.size (.slice xa xl xc) xl) (fun i _ => xl - (intOf i).toNat)
          case atStart => exact ⟨0, by omega, rfl, Fr.refl _ _, HOB.out⟩
          case round =>
            obtain ⟨j, hj, rfl, hf, ho⟩ := hrel
            obtain ⟨n0, n1⟩ := duo (hf.obj HB3.out (fun hm => by have := HXNT.out _ hm; omega))
            by_cases hltj : j < xl
            · obtain ⟨gx, rfl, _, _⟩ := ho.addr (by omega)
              obtain ⟨⟨yy, hyy⟩, hzz⟩ := ho.cell hltj
              have hji : (j : Int) < (xl : Int) := by omega
              have HFR := Lib.hid hf
              have HOR := Lib.hid ho
              clear hf ho
              go_wp2
              go_roundw
              case rel =>
                refine ⟨j + 1, by omega, by go_num, HFR.out.setCell (by intro _; rw [HXT.out]; simp [Value.ownBlock]) _, HOR.out.setN j 238 (by decide)⟩
              case measure => simp [intOf] <;> omega
            · have HFR := Lib.hid hf
              clear hf ho
              have hji : ¬ (j : Int) < (xl : Int) := by omega
              go_wp2
              have hfA : Fr [p] wb wA := HFM.out.trans (HHA.out.mono (by simp))
              have hO1 := HOTB.out.fr hfA (fun i hi => by simp at hi; subst hi; exact ⟨HPN.out, HRSB.out.base⟩)
              have hTx : ∀ i ∈ T, i ∉ otB (.slice fa FED.length fc) (.slice (some ⟨gv, 0, none⟩) Y.length vc) Y ∧ w1.heap.size ≤ i := fun i hi => HXN.out i (by rw [HTT.out] at hi; simpa using hi)
              have hO2 := hO1.fr HFR.out hTx
              have hR1 := ((HRN.out.keep (((Fr.refl [] wN).alloc (.cells #[.int .i64 (I8 x.t), .slice x.a x.d.length x.c] 25)).drew)).keep HHA.out).other (O' := otB (.slice fa FED.length fc) (.slice (some ⟨gv, 0, none⟩) Y.length vc) Y) HFR.out (fun i hi _ => List.mem_append_left _ hi) (fun i hi _ => List.mem_append_right _ hi)
              have hgl : g + 1 ≤ (run FED).1.length := by rw [← HYL.out]; exact hgY2
              refine ⟨⟨k + 1, g + 1, FED, Y, XS, u, vN, by omega, by go_num, by go_num, ?_, ?_, hO2, ?_, HY.out, HXS.out, hgl, HFL2.out⟩, by simp [intOf]; omega⟩
              · rw [HP.out]
              · rw [HE.out]
              · have h := HE.out
                rw [← h]
                exact hR1
      | false =>
        have HY2 := HY
        go_upto_region 22 with fail
        go_wp2_with fail
        refine (clone_any ca cc ch wb (by omega) HCN.out (HCB.out.keep (HFW.out.trans HFB.out))).mono ?_
        rintro e w3 ⟨v3, rfl, hv3⟩
        have ho3 := hv3.got.1
        obtain ⟨g3, c3, rfl, hg3, hg3l, hb3, hf3⟩ := hv3.bytes
        have hbl : wr.heap.size < wb.heap.size := (Array.getElem?_eq_some_iff.1 HBB.out).1
        obtain ⟨O, hO⟩ : ∃ O, O = wr.heap.size :: g3 :: otB (.slice fa FED.length fc) (.slice va Y.length vc) Y := ⟨_, rfl⟩
        have HO := Lib.hid hO
        have HOL : Hid (∀ i ∈ O, i < w3.heap.size) := Lib.hid (by
          intro i hi
          rw [hO] at hi
          have h1 := hf3.size
          rcases List.mem_cons.1 hi with rfl | hi
          · omega
          · rcases List.mem_cons.1 hi with rfl | hi
            · omega
            · have := (HOTW.out.lt i hi).2; omega)
        have HRS3 : Hid (RS w1.heap.size O w3 p u v (restF FED) X E) := Lib.hid (HRSW.out.other (HFB.out.trans hf3) (fun _ h => (List.not_mem_nil h).elim) (by
          intro i hi hlt
          rw [hO] at hi
          rcases List.mem_cons.1 hi with rfl | hi
          · omega
          · rcases List.mem_cons.1 hi with rfl | hi
            · omega
            · exact hi))
        have HF3 := Lib.hid ((HFW.out.trans HFB.out).trans hf3)
        have HO3 := Lib.hid ho3
        have HB3 := Lib.hid hb3
        have HBB3 := Lib.hid (hf3.obj HBB.out (by simp))
        have HOT3 := Lib.hid (HOTB.out.keep hf3)
        have hBs : w1.heap.size ≤ w3.heap.size := HOT3.out.fed.fr.size
        have HG3 := Lib.hid hg3
        clear hv3 hO ho3 hb3 hf3 b0 b1 hg3
        by_cases hE0 : E = 0
        · subst hE0
          have hre : (run FED).2.2 = 0 := HE.out.symm
          obtain ⟨m1, m2, m3, m4⟩ := run_more FED ch hre
          have hrl : (restF FED).length ≤ FED.length := by unfold restF; split <;> simp
          go_upto_region 23 with fail
          go_wp2_with fail
          refine (HRS3.out.feed HOL.out (some ⟨g3, 0, none⟩) c3 HB3.out (fun h => by cases h) (nib_keep HN.out HF3.out) hnl (by omega) (by have := HXL.out; have := HYL.out; omega) hBs).mono ?_
          rintro e w4 ⟨rfl, u', v', X1, T, hr4, hm4, hf4, hT4⟩
          obtain ⟨L, hL⟩ : ∃ L, L = FED ++ ch := ⟨_, rfl⟩
          obtain ⟨E2, hE2⟩ : ∃ E2, E2 = (run L).2.2 := ⟨_, rfl⟩
          obtain ⟨P2, hP2⟩ : ∃ P2, P2 = (run L).2.1 := ⟨_, rfl⟩
          rw [← hL] at m1 m2 m3 m4
          rw [← hE2] at m1 m4
          rw [← hP2] at m4
          rw [← m1] at hr4 ⊢
          replace hr4 : RS w1.heap.size O w4 p u' v' (if E2 = 0 then (restF FED ++ ch).drop (run (restF FED ++ ch)).2.1 else []) (X ++ X1) E2 := hr4
          have hm3 : restF L = if E2 = 0 then (restF FED ++ ch).drop (run (restF FED ++ ch)).2.1 else [] := by rw [m3, m1]; rfl
          rw [← hm3] at hr4
          have hXX : (X ++ X1).map FI.fr = (run L).1.drop g := by rw [List.map_append, HX.out, hm4, m2, List.drop_append_of_le_length HG.out]
          have hgL : g ≤ (run L).1.length := by rw [m2, List.length_append]; have := HG.out; omega
          have hLl : L.length = FED.length + ch.length := by rw [hL, List.length_append]
          have hLk : L.length ≤ (k + 1) * 1048576 := by rw [hLl, Nat.add_mul, Nat.one_mul]; exact Nat.add_le_add hFl hchl
          have HL := Lib.hid hL
          have HLL := Lib.hid hLl
          have HLK := Lib.hid hLk
          have HE2 := Lib.hid hE2
          have HP2 := Lib.hid hP2
          have HM4 := Lib.hid m4
          have HXX := Lib.hid hXX
          have HGL := Lib.hid hgL
          have HR4 := Lib.hid hr4
          have HT4 := Lib.hid hT4
          have hbs4 := hf4.obj HBB3.out (fun hm => (hT4 _ hm).1 (by rw [HO.out]; exact List.mem_cons_self))
          have HBB4 := Lib.hid hbs4
          have hotO : ∀ i ∈ otB (.slice fa FED.length fc) (.slice va Y.length vc) Y, i ∈ O := fun i hi => by rw [HO.out]; exact List.mem_cons_of_mem _ (List.mem_cons_of_mem _ hi)
          have HOTO := Lib.hid hotO
          have hot4 := HOT3.out.fr hf4 fun i hi => ⟨fun hm => (hT4 i hi).1 (hotO i hm), (hT4 i hi).2⟩
          have HOT4 := Lib.hid hot4
          have hg3T : g3 ∉ T := fun hm => (hT4 g3 hm).1 (by rw [HO.out]; exact List.mem_cons_of_mem _ List.mem_cons_self)
          have ho4 := own_fr HO3.out hf4 (by intro i hi; simp [Value.ownBlock] at hi; subst hi; exact hg3T)
          have HO4 := Lib.hid ho4
          have HOB4 : Hid (OwnB w4 wb.heap.size (.slice (some ⟨g3, 0, none⟩) ch.length c3) ch.length) := Lib.hid (OwnB.of ho4)
          have HFW4 := Lib.hid (HF1.out.trans hot4.fed.fr)
          have HS4 := Lib.hid (by
            have h := same_any (some ⟨g3, 0, none⟩) ca c3 cc ch ch w4 (fun h => by cases h) HCN.out (own_by ho4).1 (HCB.out.keep (HF1.out.trans hot4.fed.fr))
            rw [beq_self_eq_true] at h
            exact h)
          obtain ⟨b0, b1⟩ := duo hbs4
          clear m1 m2 m3 m4 hre hrl hr4 hm4 hf4 hT4 hL hE2 hP2 hm3 hXX hgL hLl hLk hbs4 hotO hot4 hg3T ho4
          go_wp2_with fail
          refine HS4.out.mono ?_
          rintro e w5 ⟨rfl, rfl⟩
          clear b0 b1
          go_wp2_with fail
          go_loopw [96] (fun i wr2 => ∃ j : Nat, j ≤ ch.length ∧ i = .int .i64 j ∧ Fr [g3] w4 wr2 ∧ OwnB wr2 wb.heap.size (.slice (some ⟨g3, 0, none⟩) ch.length c3) ch.length) (fun i _ => ch.length - (intOf i).toNat)
          case atStart => exact ⟨0, by omega, rfl, Fr.refl _ _, HOB4.out⟩
          case round =>
            obtain ⟨j, hj, rfl, hf, ho⟩ := hrel
            by_cases hltj : j < ch.length
            · obtain ⟨⟨yy, hyy⟩, hzz⟩ := ho.cell hltj
              have hji : (j : Int) < (ch.length : Int) := by omega
              have HFR := Lib.hid hf
              have HOR := Lib.hid ho
              clear hf ho
              go_wp2
              go_roundw
              case rel =>
                refine ⟨j + 1, by omega, by go_num, HFR.out.setCell (by intro _; simp) _, HOR.out.setN j 238 (by decide)⟩
              case measure => simp [intOf] <;> omega
            · have HFR := Lib.hid hf
              clear ho
              have hji : ¬ (j : Int) < (ch.length : Int) := by omega
              obtain ⟨b0, b1⟩ := duo (hf.obj HBB4.out (by have := HG3.out; simp; omega))
              have hot5 := HOT4.out.fr hf (by
                intro i hi
                simp at hi
                subst hi
                have := HG3.out
                exact ⟨fun hm => by have := (HOTW.out.lt _ hm).2; omega, by have := HOTW.out.fed.fr.size; omega⟩)
              have hrs5 := HR4.out.other (O' := otB (.slice fa FED.length fc) (.slice va Y.length vc) Y) hf (fun i hi _ => by simp at hi; subst hi; rw [HO.out]; exact List.mem_cons_of_mem _ List.mem_cons_self) (fun i hi _ => HOTO.out i hi)
              have HOT5 := Lib.hid hot5
              have HRS5 := Lib.hid hrs5
              have HCB5 := Lib.hid (HCB.out.keep (HF1.out.trans hot5.fed.fr))
              clear hf hot5 hrs5
              go_wp2_with (at_builtin; refine wpList_apB _ rfl _ _ 23 rfl w1.heap.size 5 Tryd.underlying23 info8 (.slice fa FED.length fc) FED rfl HOT5.out.fed.own ca ch.length cc ch rfl rfl HCB5.out HCN.out (by omega) HOT5.out.fed.fr.size ?_; intro v6 w6 happ; obtain ⟨a6, c6, rfl⟩ := own_sl happ.own; have HAP := Lib.hid happ; clear happ)
              rw [← HLL.out]
              have hg6 := HOT5.out.fed.app HAP.out
              rw [← HL.out] at hg6
              have hcap := (own_by hg6.own).2
              have hby := (own_by hg6.own).1
              have hsn := spl_none hg6.own
              have hrs6 := HRS5.out.other (O' := otB (.slice a6 L.length c6) (.slice none 0 0) []) HAP.out.fr (fun i hi _ => otB_f (by simpa using hi)) (by
                intro i hi hlt
                rcases otB_cases hi with h | h | ⟨_, h, _⟩
                · rcases HAP.out.blk with hb | ⟨g', hb, hg'⟩
                  · rw [HL.out] at h; rw [hb] at h; exact otB_f h
                  · rw [HL.out] at h; rw [hb] at h; cases h; omega
                · cases h
                · exact (List.not_mem_nil h).elim)
              have HG6 := Lib.hid hg6
              have HRS6 := Lib.hid hrs6
              have hLL2 : L.length ≤ 1099512676352 := by have := HLL.out; omega
              clear hg6 hrs6 b0 b1 hji
              refine (refFrames_any a6 c6 L w6 (by omega) hcap hsn hby).mono ?_
              rintro e w7 ⟨v7, Y2, rfl, hy7, hm7, hf7⟩
              rw [← HE2.out, ← HP2.out]
              obtain ⟨a7, c7, rfl⟩ := own_sl hy7.row
              have hot7 : OT w1 w7 (.slice a6 L.length c6) (.slice a7 Y2.length c7) L Y2 := ⟨HG6.out.fr0 hf7, ⟨own_base hy7.row HG6.out.fr.size, fun y hy => own_base (hy7.dat y hy) HG6.out.fr.size, hy7.dis, hy7.off⟩⟩
              have hrs7 := HRS6.out.other (O' := otB (.slice a6 L.length c6) (.slice a7 Y2.length c7) Y2) hf7 (fun _ h => (List.not_mem_nil h).elim) (by
                intro i hi hlt
                rcases otB_cases hi with h | h | ⟨y, hy, h⟩
                · exact otB_f h
                · have := (own_lt hy7.row h).1; omega
                · have := (own_lt (hy7.dat y hy) h).1; omega)
              have HOT7 := Lib.hid hot7
              have HRS7 := Lib.hid hrs7
              have HM7 := Lib.hid hm7
              clear hy7 hm7 hf7 hot7 hrs7 hcap hby hsn
              obtain ⟨RL, hRL⟩ : ∃ RL, RL = (restF L).length := ⟨_, rfl⟩
              have HRL := Lib.hid hRL
              by_cases hz : E2 = 0
              · subst hz
                have hq := HM4.out rfl
                rw [← hRL] at hq
                have hP2l : P2 ≤ L.length := by rw [HP2.out]; exact (run_end L).1
                have hqi : (L.length : Int) - (P2 : Int) = (RL : Int) := by omega
                clear hq hRL hP2l
                go_wp2_with fail
                refine (Err_F _ _ _ _ _ _ _ _ HRS7.out.rd).mono ?_
                rintro e w8 ⟨rfl, rfl⟩
                go_wp2_with fail
                refine (Rest_F _ _ _ _ _ _ _ _ HRS7.out.rd).mono ?_
                rintro e w8 ⟨rfl, rfl⟩
                rw [← HRL.out]
                go_wp2
                have hR7 := HRS7.out
                have hO7 := HOT7.out
                refine ⟨⟨k + 1, g, L, Y2, X ++ X1, u', v', by omega, by go_num, rfl, ?_, ?_, hO7, ?_, HM7.out, HXX.out, HGL.out, HLK.out⟩, by simp [intOf]; omega⟩
                · rw [HP2.out]
                · rw [← HE2.out]
                · have h := HE2.out
                  rw [← h]
                  exact hR7
              · have hzb : (E2 != 0) = true := by rw [bne_iff_ne]; exact hz
                have hR0 : RL = 0 := by
                  have h := HE2.out
                  have h2 : (run L).2.2 ≠ 0 := by rw [← h]; exact hz
                  rw [hRL]
                  unfold restF
                  rw [if_neg h2]
                  rfl
                clear hRL
                subst hR0
                go_wp2_with fail
                refine (Err_F _ _ _ _ _ _ _ _ HRS7.out.rd).mono ?_
                rintro e w8 ⟨rfl, rfl⟩
                go_wp2_with fail
                refine (Rest_F _ _ _ _ _ _ _ _ HRS7.out.rd).mono ?_
                rintro e w8 ⟨rfl, rfl⟩
                rw [← HRL.out]
                go_wp2
                have hR7 := HRS7.out
                have hO7 := HOT7.out
                refine ⟨⟨k + 1, g, L, Y2, X ++ X1, u', v', by omega, by go_num, rfl, ?_, ?_, hO7, ?_, HM7.out, HXX.out, HGL.out, HLK.out⟩, by simp [intOf]; omega⟩
                · rw [HP2.out]
                · rw [← HE2.out]
                · have h := HE2.out
                  rw [← h]
                  exact hR7
        · have hEb : (E == 0) = false := by rw [beq_eq_false_iff_ne]; exact hE0
          have hEn : (E != 0) = true := by rw [bne_iff_ne]; exact hE0
          go_upto_region 23 with fail
          go_wp2_with fail
          refine (Feed_bad _ _ _ _ _ _ _ _ _ _ _ HRS3.out.rd hE0).mono ?_
          rintro e w4 ⟨rfl, rfl⟩
          have HOB4 : Hid (OwnB w3 wb.heap.size (.slice (some ⟨g3, 0, none⟩) ch.length c3) ch.length) := Lib.hid (OwnB.of HO3.out)
          have HS4 := Lib.hid (by
            have h := same_any (some ⟨g3, 0, none⟩) ca c3 cc ch ch w3 (fun h => by cases h) HCN.out HB3.out (HCB.out.keep HF3.out)
            rw [beq_self_eq_true] at h
            exact h)
          have hR0 : (restF FED).length = 0 := by
            have h := HE.out
            have h2 : (run FED).2.2 ≠ 0 := by rw [← h]; exact hE0
            unfold restF
            rw [if_neg h2]
            rfl
          have HR0 := Lib.hid hR0
          obtain ⟨b0, b1⟩ := duo HBB3.out
          clear hR0 hE0
          go_wp2_with fail
          refine HS4.out.mono ?_
          rintro e w5 ⟨rfl, rfl⟩
          clear b0 b1
          go_wp2_with fail
          go_loopw [96] (fun i wr2 => ∃ j : Nat, j ≤ ch.length ∧ i = .int .i64 j ∧ Fr [g3] w3 wr2 ∧ OwnB wr2 wb.heap.size (.slice (some ⟨g3, 0, none⟩) ch.length c3) ch.length) (fun i _ => ch.length - (intOf i).toNat)
          case atStart => exact ⟨0, by omega, rfl, Fr.refl _ _, HOB4.out⟩
          case round =>
            obtain ⟨j, hj, rfl, hf, ho⟩ := hrel
            by_cases hltj : j < ch.length
            · obtain ⟨⟨yy, hyy⟩, hzz⟩ := ho.cell hltj
              have hji : (j : Int) < (ch.length : Int) := by omega
              have HFR := Lib.hid hf
              have HOR := Lib.hid ho
              clear hf ho
              go_wp2
              go_roundw
              case rel =>
                refine ⟨j + 1, by omega, by go_num, HFR.out.setCell (by intro _; simp) _, HOR.out.setN j 238 (by decide)⟩
              case measure => simp [intOf] <;> omega
            · clear ho
              have hji : ¬ (j : Int) < (ch.length : Int) := by omega
              have hot5 := HOT3.out.fr hf (by
                intro i hi
                simp at hi
                subst hi
                have := HG3.out
                exact ⟨fun hm => by have := (HOTW.out.lt _ hm).2; omega, by have := HOTW.out.fed.fr.size; omega⟩)
              have hrs5 := HRS3.out.other (O' := otB (.slice fa FED.length fc) (.slice va Y.length vc) Y) hf (fun i hi _ => by simp at hi; subst hi; rw [HO.out]; exact List.mem_cons_of_mem _ List.mem_cons_self) (fun i hi _ => by rw [HO.out]; exact List.mem_cons_of_mem _ (List.mem_cons_of_mem _ hi))
              have HOT5 := Lib.hid hot5
              have HRS5 := Lib.hid hrs5
              clear hf hot5 hrs5
              go_wp2_with fail
              refine (Err_F _ _ _ _ _ _ _ _ HRS5.out.rd).mono ?_
              rintro e w8 ⟨rfl, rfl⟩
              go_wp2_with fail
              refine (Rest_F _ _ _ _ _ _ _ _ HRS5.out.rd).mono ?_
              rintro e w8 ⟨rfl, rfl⟩
              rw [HR0.out]
              go_wp2
              have hR7 := HRS5.out
              have hO7 := HOT5.out
              refine ⟨⟨k + 1, g, FED, Y, X, u, v, by omega, by go_num, rfl, ?_, ?_, hO7, ?_, HY.out, HX.out, HG.out, HFL2.out⟩, by simp [intOf]; omega⟩
              · rw [HP.out]
              · rw [HE.out]
              · have h := HE.out
                rw [← h]
                exact hR7
    · obtain rfl : k = n := by omega
      obtain ⟨fa, fc, rfl⟩ := own_sl hot.fed.own
      obtain ⟨va, vc, rfl⟩ := own_sl hot.all.row
      obtain ⟨hYl, hXl⟩ := rel_Y hY hX
      have hYL : Y.length ≤ 1099511627776 := by have := run_frames FED; omega
      have hgY : g ≤ Y.length := by omega
      have HOT := Lib.hid hot
      have HRS := Lib.hid hrs
      have HX := Lib.hid hX
      have HY := Lib.hid hY
      obtain ⟨E, hE⟩ : ∃ E, E = (run FED).2.2 := ⟨_, rfl⟩
      obtain ⟨P, hP⟩ : ∃ P, P = (run FED).2.1 := ⟨_, rfl⟩
      rw [← hE] at HRS
      rw [← hE, ← hP]
      have HGY := Lib.hid hgY
      clear hot hrs hX hY hYl hXl hE hP hFl hg hgY
      go_wp2_with fail
      go_loopw [5] (fun gi wr2 => ∃ (g : Nat) (X : List FI) (v : Value), gi = .int .i64 g ∧ g ≤ Y.length ∧ OT w1 wr2 (.slice fa FED.length fc) (.slice va Y.length vc) FED Y ∧ RS w1.heap.size (otB (.slice fa FED.length fc) (.slice va Y.length vc) Y) wr2 p u v (restF FED) X E ∧ X.map FI.fr = (run FED).1.drop g) (fun gi _ => Y.length - (intOf gi).toNat)
      case atStart => exact ⟨g, X, v, rfl, HGY.out, HOT.out, HRS.out, HX.out⟩
      case round =>
        clear HOT HRS HX HGY
        obtain ⟨g, X, v, rfl, hgY, hot, hrs, hX⟩ := hrel
        obtain ⟨hYl, hXl⟩ := rel_Y HY.out hX
        by_cases hlt : g < Y.length
        · cases X with
          | nil => simp at hXl; omega
          | cons x XS =>
          obtain ⟨hgY2, et, ed, hXS⟩ := rel_get HY.out hX
          obtain ⟨y, hy⟩ : ∃ y, y = Y[g] := ⟨_, rfl⟩
          rw [← hy] at et ed
          obtain ⟨gv, rfl, _⟩ := own_pos hot.all.row (by omega)
          obtain ⟨gx1, gx2⟩ := fiCells_get Y g hgY2
          rw [← hy] at gx1 gx2
          have rX := OwnO.of hot.all.row
          have c1 : wr.cell? ⟨gv, g * 2, none⟩ = some (.int .i64 (I8 y.t)) := by have h := (rX.cell (g * 2) (by rw [fiCells_length]; omega)).1; rw [gx1, Nat.zero_add] at h; exact h
          have c2 : wr.cell? ⟨gv, g * 2 + 1, none⟩ = some (.slice y.a y.d.length y.c) := by have h := (rX.cell (g * 2 + 1) (by rw [fiCells_length]; omega)).1; rw [gx2, Nat.zero_add] at h; exact h
          have HC1 := Lib.hid c1
          have HC2 := Lib.hid c2
          have HYD := Lib.hid (hot.all.dat y (by rw [hy]; exact List.getElem_mem _))
          have HET := Lib.hid et
          have HED := Lib.hid ed
          have HXS := Lib.hid hXS
          have HGO : Hid (∀ i, (Value.slice (some ⟨gv, 0, none⟩) Y.length vc).ownBlock = some i → i ∈ otB (.slice fa FED.length fc) (.slice (some ⟨gv, 0, none⟩) Y.length vc) Y) := Lib.hid fun i hi => otB_a hi
          have HYO : Hid (∀ i, y.v.ownBlock = some i → i ∈ otB (.slice fa FED.length fc) (.slice (some ⟨gv, 0, none⟩) Y.length vc) Y) := Lib.hid fun i hi => otB_y (by rw [hy]; exact List.getElem_mem _) hi
          have HXD := Lib.hid (hrs.rd.ready.dat x List.mem_cons_self)
          have HRSB := Lib.hid hrs
          have HOTB := Lib.hid hot
          have hgYi : (g : Int) < (Y.length : Int) := by omega
          clear hgY et ed hXS hy gx1 gx2 rX c1 c2 hYl hXl hX hrs hot
          go_wp2_with fail
          refine (HRSB.out.next).mono ?_
          rintro e wN ⟨rfl, vN, hrN, hoN, hxN, hfN, hpN⟩
          have hgp : gv ≠ p := fun e => hpN (e ▸ HGO.out gv rfl)
          have hbn : (wN.alloc (.cells #[.int .i64 (I8 x.t), .slice x.a x.d.length x.c] 25)).heap[wN.heap.size]? = some (.cells #[.int .i64 (I8 x.t), .slice x.a x.d.length x.c] 25) := heap_alloc_new wN _
          obtain ⟨n0, n1⟩ := duo hbn
          have hfM : Fr [p] wr (wN.alloc (.cells #[.int .i64 (I8 x.t), .slice x.a x.d.length x.c] 25)).drew := (hfN.alloc _).drew
          have n2 := hfM.cell HC1.out (by simp; exact hgp)
          have n3 := hfM.cell HC2.out (by simp; exact hgp)
          have HS0 : Hid (∀ W, Fr [] (wN.alloc (.cells #[.int .i64 (I8 x.t), .slice x.a x.d.length x.c] 25)).drew W → Calls Tryd.prog 16 #[.agg #[.int .i64 (I8 x.t), .slice x.a x.d.length x.c], .agg #[.int .i64 (I8 y.t), .slice y.a y.d.length y.c]] W fun e w' => e = .returned (.bool true) ∧ Fr [] W w') := Lib.hid (fun W hW => by
            have h := Same_any (I8 x.t) (I8 y.t) x.a y.a x.c y.c x.d y.d W (spl_none HXD.out) (spl_none HYD.out) ((own_by (own_fr (own_fr hoN (((Fr.refl [] wN).alloc _).drew) (by simp)) hW (by simp))).1) ((own_by (own_fr (own_fr HYD.out hfM (fun i hi hm => hpN (by simp at hm; exact hm ▸ HYO.out i hi))) hW (by simp))).1)
            rw [HET.out, HED.out, beq_self_eq_true, beq_self_eq_true] at h
            rw [HET.out, HED.out]
            exact h)
          have HRN := Lib.hid hrN
          have HPN := Lib.hid hpN
          have HFM := Lib.hid hfM
          clear hrN hoN hxN hfN hpN hfM hbn
          go_upto_region 43 with fail
          refine wp_region_held_drew (S := fun w' => w'.cell? ⟨wN.heap.size, 0, none⟩ = some (.int .i64 (I8 x.t)) ∧ w'.cell? ⟨wN.heap.size, 1, none⟩ = some (.slice x.a x.d.length x.c) ∧ w'.cell? ⟨gv, g * 2, none⟩ = some (.int .i64 (I8 y.t)) ∧ w'.cell? ⟨gv, g * 2 + 1, none⟩ = some (.slice y.a y.d.length y.c)) (by kernel_rfl) (by exact ⟨n0, n1, n2, n3⟩) (fun hHeld => ?_)
          refine wpAnyH_take (i := 0) (v := ?_) rfl (by kernel_rfl) (by kernel_rfl) (by kernel_rfl) (fun _ _ _ h => h) (Or.inl ⟨by rfl, ?_⟩) (by assumption) ?_
          rotate_left
          · (intro w hSw; (try dsimp only at hSw); go_simp; (try with_reducible rfl))
          try simp only [Act.put, List.setIfInBounds_toArray, List.set_cons_zero, List.set_cons_succ, List.getElem_toArray, List.getElem_cons_zero, List.getElem_cons_succ]
          refine wpAnyH_take (i := 1) (v := ?_) rfl (by kernel_rfl) (by kernel_rfl) (by kernel_rfl) (fun _ _ _ h => h) (Or.inl ⟨by rfl, ?_⟩) (by assumption) ?_
          rotate_left
          · (intro w hSw; (try dsimp only at hSw); go_simp; (try with_reducible rfl))
          try simp only [Act.put, List.setIfInBounds_toArray, List.set_cons_zero, List.set_cons_succ, List.getElem_toArray, List.getElem_cons_zero, List.getElem_cons_succ]
          refine wpAnyH_take (i := 2) (v := ?_) rfl (by kernel_rfl) (by kernel_rfl) (by kernel_rfl) (fun _ _ _ h => h) (Or.inl ⟨by rfl, ?_⟩) (by assumption) ?_
          rotate_left
          · (intro w hSw; (try dsimp only at hSw); go_simp; (try with_reducible rfl))
          try simp only [Act.put, List.setIfInBounds_toArray, List.set_cons_zero, List.set_cons_succ, List.getElem_toArray, List.getElem_cons_zero, List.getElem_cons_succ]
          refine wpAnyH_take (i := 3) (v := ?_) rfl (by kernel_rfl) (by kernel_rfl) (by kernel_rfl) (fun _ _ _ h => h) (Or.inl ⟨by rfl, ?_⟩) (by assumption) ?_
          rotate_left
          · (intro w hSw; (try dsimp only at hSw); go_simp; (try with_reducible rfl))
          try simp only [Act.put, List.setIfInBounds_toArray, List.set_cons_zero, List.set_cons_succ, List.getElem_toArray, List.getElem_cons_zero, List.getElem_cons_succ]
          refine wpAnyH_take (i := 4) (v := ?_) rfl (by kernel_rfl) (by kernel_rfl) (by kernel_rfl) (fun _ _ _ h => h) (Or.inl ⟨by rfl, ?_⟩) (by assumption) ?_
          rotate_left
          · (intro w hSw; (try dsimp only at hSw); go_simp; (try with_reducible rfl))
          try simp only [Act.put, List.setIfInBounds_toArray, List.set_cons_zero, List.set_cons_succ, List.getElem_toArray, List.getElem_cons_zero, List.getElem_cons_succ]
          refine wpAnyH_take (i := 5) (v := ?_) rfl (by kernel_rfl) (by kernel_rfl) (by kernel_rfl) (fun _ _ _ h => h) (Or.inl ⟨by rfl, ?_⟩) (by assumption) ?_
          rotate_left
          · (intro w hSw; (try dsimp only at hSw); go_simp; (try with_reducible rfl))
          try simp only [Act.put, List.setIfInBounds_toArray, List.set_cons_zero, List.set_cons_succ, List.getElem_toArray, List.getElem_cons_zero, List.getElem_cons_succ]
          refine wpAnyH_take (i := 6) (v := ?_) rfl (by kernel_rfl) (by kernel_rfl) (by kernel_rfl) (fun _ _ _ h => h) (Or.inl ⟨by rfl, ?_⟩) (by assumption) ?_
          rotate_left
          · (intro w hSw; (try dsimp only at hSw); go_simp; (try with_reducible rfl))
          try simp only [Act.put, List.setIfInBounds_toArray, List.set_cons_zero, List.set_cons_succ, List.getElem_toArray, List.getElem_cons_zero, List.getElem_cons_succ]
          refine wpAnyH_take (i := 7) (v := ?_) rfl (by kernel_rfl) (by kernel_rfl) (by kernel_rfl) (fun _ _ _ h => h) (Or.inl ⟨by rfl, ?_⟩) (by assumption) ?_
          rotate_left
          · (intro w hSw; (try dsimp only at hSw); go_simp; (try with_reducible rfl))
          try simp only [Act.put, List.setIfInBounds_toArray, List.set_cons_zero, List.set_cons_succ, List.getElem_toArray, List.getElem_cons_zero, List.getElem_cons_succ]
          refine wpAnyH_ready (rs := [8]) (by kernel_rfl) (by simp) ?_
          refine AllReadyH.cons rfl (fun K hK => ?_) AllReadyH.nil
          go_simp
          refine (HS0.out _ (Fr.refl [] _)).mono ?_
          rintro e wA ⟨rfl, hA⟩
          go_simp
          refine hK.out _ _ (by exact ⟨hA.cell n0 (by simp), hA.cell n1 (by simp), hA.cell n2 (by simp), hA.cell n3 (by simp)⟩) (fun hHeld => ?_)
          clear hK K
          try simp only [Act.put, List.setIfInBounds_toArray, List.set_cons_zero, List.set_cons_succ, List.getElem_toArray, List.getElem_cons_zero, List.getElem_cons_succ]
          refine wpAnyH_take (i := 9) (v := ?_) rfl (by kernel_rfl) (by kernel_rfl) (by kernel_rfl) (fun _ _ _ h => h) (Or.inl ⟨by rfl, ?_⟩) (by assumption) ?_
          rotate_left
          · (intro w hSw; (try dsimp only at hSw); go_simp; (try with_reducible rfl))
          try simp only [Act.put, List.setIfInBounds_toArray, List.set_cons_zero, List.set_cons_succ, List.getElem_toArray, List.getElem_cons_zero, List.getElem_cons_succ]
          refine wpAnyH_take (i := 10) (v := ?_) rfl (by kernel_rfl) (by kernel_rfl) (by kernel_rfl) (fun _ _ _ h => h) (Or.inl ⟨by rfl, ?_⟩) (by assumption) ?_
          rotate_left
          · (intro w hSw; (try dsimp only at hSw); go_simp; (try with_reducible rfl))
          try simp only [Act.put, List.setIfInBounds_toArray, List.set_cons_zero, List.set_cons_succ, List.getElem_toArray, List.getElem_cons_zero, List.getElem_cons_succ]
          refine wpAnyH_done (by kernel_rfl) ?_ _
          have HHA := Lib.hid hA
          clear hA n0 n1 n2 n3 HS0
          go_wp2_with fail
          go_roundw
          case rel =>
            have hfA : Fr [p] wr wA := HFM.out.trans (HHA.out.mono (by simp))
            have hO1 := HOTB.out.fr hfA (fun i hi => by simp at hi; subst hi; exact ⟨HPN.out, HRSB.out.base⟩)
            have hR1 := ((HRN.out.keep (((Fr.refl [] wN).alloc (.cells #[.int .i64 (I8 x.t), .slice x.a x.d.length x.c] 25)).drew)).keep HHA.out).other (O' := otB (.slice fa FED.length fc) (.slice (some ⟨gv, 0, none⟩) Y.length vc) Y) (Fr.refl [] wA) (fun _ h => (List.not_mem_nil h).elim) (fun i hi _ => List.mem_append_right _ hi)
            exact ⟨g + 1, XS, vN, by go_num, by omega, hO1, hR1, HXS.out⟩
          case measure => simp [intOf] <;> omega
        · have hXn : X = [] := List.eq_nil_of_length_eq_zero (by omega)
          subst hXn
          have HRD := Lib.hid hrs.rd
          have HFW := Lib.hid (HF1.out.trans hot.fed.fr)
          clear hrs hot hX hYl hXl
          have hgYi : ¬ (g : Int) < (Y.length : Int) := by omega
          go_wp2_with fail
          refine (Next_none _ _ _ _ _ _ _ HRD.out).mono ?_
          rintro e wN ⟨rfl, hfN⟩
          have HFN := Lib.hid (HFW.out.trans hfN)
          clear hfN
          go_wp2_with fail
          go_ret
          exact ⟨rfl, HFN.out.alloc _⟩
end Go.Proofs.YtkgfdcagninphaaDoor
