/- Record files: RecfileThere. -/
import Derived.Test.YtibhbfmljibeaaaDoorRfR
import Derived.Test.YtibhbfmljibeaaaDoorOpArgs
import Derived.Test.YtibhbfmljibeaaaDoorAndM
namespace Go.Proofs.YtibhbfmljibeaaaDoor
open Go.RowKit
attribute [local go_sem ↓] Go.wp_at_zero Go.wp_at_succ
theorem trio {w : World} {b T : Nat} {x y z : Value} (h : w.heap[b]? = some (.cells #[x, y, z] T)) : w.cell? ⟨b, 0, none⟩ = some x ∧ w.cell? ⟨b, 1, none⟩ = some y ∧ w.cell? ⟨b, 2, none⟩ = some z :=
  ⟨cell_of_row _ _ 0 _ _ _ h, cell_of_row _ _ 1 _ _ _ h, cell_of_row _ _ 2 _ _ _ h⟩
set_option maxRecDepth 100000 in
set_option maxHeartbeats 3200000 in
theorem recfileThere_walk (x y z : Int) (sa : Option Addr) (n sc : Nat) (F : Nat → OpW) (w : World) (hn2 : n ≤ 140737488351300) (hF : OpsA w sa n F) (hn : Nib w) :
    Calls Tryd.prog 6 #[.agg #[.int .i64 x, .int .i64 y, .int .i64 z], .slice sa n sc] w fun e w' => e = .returned (.bool true) ∧ Fr [] w w' := by
  have HN := Lib.hid hn
  have HF := Lib.hid hF
  clear hn hF
  obtain ⟨kd, hkd, ekd⟩ := mask255 x
  obtain ⟨vr, hvr, evr⟩ := mask255 y
  obtain ⟨sz, hsz, esz⟩ := mask63 z
  obtain ⟨wb, hwb⟩ : ∃ wb, wb = w.alloc (.cells #[.int .i64 x, .int .i64 y, .int .i64 z] 39) := ⟨_, rfl⟩
  have HB := Lib.hid (show wb.heap[w.heap.size]? = some (.cells #[.int .i64 x, .int .i64 y, .int .i64 z] 39) by rw [hwb]; exact heap_alloc_new w _)
  have HFB := Lib.hid (show Fr [] w wb by rw [hwb]; exact (Fr.refl _ _).alloc _)
  have HWB := Lib.hid hwb
  clear hwb
  go_enter Tryd.func6, Tryd.ntmps6
  go_wp2_with fail
  rw [← HWB.out]
  refine (speaks09 wb (nib_keep HN.out HFB.out)).mono ?_
  rintro e w1 ⟨rfl, hf1⟩
  have HF1 := Lib.hid (HFB.out.trans hf1)
  have HB1 := Lib.hid (hf1.obj HB.out (by simp))
  obtain ⟨b0, b1, b2⟩ := trio HB1.out
  have e2 : IntKind.i64.wrap (2 + (sz : Int)) = ((2 + sz : Nat) : Int) := by rw [IntWalk.i64_in _ (by omega)]; omega
  have HNEW := Lib.hid (New_ok kd vr (2 + sz) w1 hkd hvr (by omega) (by omega))
  clear hf1
  go_wp2_with fail
  refine HNEW.out.mono ?_
  rintro e w2 ⟨rfl, hr2, hf2⟩
  obtain ⟨p, hp⟩ : ∃ p, p = w1.heap.size := ⟨_, rfl⟩
  obtain ⟨bs, hbs⟩ : ∃ bs, bs = [w1.heap.size] := ⟨_, rfl⟩
  have hr3 : RF w1.heap.size bs w2 p ⟨kd, vr, 2 + sz, 0, []⟩ := by rw [hbs, hp]; exact hr2
  rw [← hp]
  have HR2 := Lib.hid hr3
  have HF2 := Lib.hid (HF1.out.trans hf2)
  have HW := Lib.hid (HF1.out.size)
  have HHB := Lib.hid (show w.heap.size < w1.heap.size from (Array.getElem?_eq_some_iff.1 HB1.out).1)
  have HH2 := Lib.hid (hf2.cell b2 (by simp))
  obtain ⟨m, hm⟩ : ∃ m, m = 1 + sz := ⟨_, rfl⟩
  have e3 : IntKind.i64.wrap (1 + (sz : Int)) = (m : Int) := by rw [IntWalk.i64_in _ (by omega)]; omega
  have hmb : m ≤ 64 := by omega
  clear hm hr2 hr3 hf2 hp hbs HNEW b0 b1 b2 HB1 HB HFB HWB ekd evr e2
  go_wp2_with fail
  go_loopw [32] (fun i wr => ∃ (k : Nat) (bs : List Nat) (s : RFS), k ≤ n ∧ i = .int .i64 k ∧ RF w1.heap.size bs wr p s ∧ Fr [] w wr ∧ wr.cell? ⟨w.heap.size, 2, none⟩ = some (.int .i64 z)) (fun i _ => n - (intOf i).toNat)
  case atStart => exact ⟨0, bs, _, by omega, rfl, HR2.out, HF2.out, HH2.out⟩
  case round =>
    obtain ⟨k, bs, s, hk, rfl, hr, hf, hz⟩ := hrel
    have HR := Lib.hid hr
    have HFR := Lib.hid hf
    have HZ := Lib.hid hz
    clear hr hf hz
    by_cases hlt : k < n
    · obtain ⟨sb, so, rfl, c0, c1, c2⟩ := (HF.out.keep HFR.out).cell k hlt
      obtain ⟨okd, hokd⟩ : ∃ z, z = (F k).kd := ⟨_, rfl⟩
      obtain ⟨oid, hoid⟩ : ∃ z, z = (F k).id := ⟨_, rfl⟩
      rw [← hokd] at c0
      rw [← hoid] at c1
      generalize (F k).a = oa at c2
      generalize (F k).d.length = ol at c2
      generalize (F k).c = oc at c2
      obtain ⟨j3, hj3, ej3⟩ := mask3 okd
      obtain ⟨j8, hj8, ej8⟩ := mask255 oid
      obtain ⟨wbx, hwbx⟩ : ∃ wb, wb = wr.alloc (.cells #[.int .i64 okd, .int .i64 oid, .slice oa ol oc] 43) := ⟨_, rfl⟩
      have hbb : wbx.heap[wr.heap.size]? = some (.cells #[.int .i64 okd, .int .i64 oid, .slice oa ol oc] 43) := by rw [hwbx]; exact heap_alloc_new wr _
      have hfb : Fr [] wr wbx := by rw [hwbx]; exact (Fr.refl _ _).alloc _
      have HRB := Lib.hid (HR.out.keep hfb)
      have HFB := Lib.hid (HFR.out.trans hfb)
      have HZB := Lib.hid (hfb.cell HZ.out (by simp))
      obtain ⟨b0, b1, b2⟩ := trio hbb
      have HWBX := Lib.hid hwbx
      clear hokd hoid hwbx hbb hfb
      go_upto_region 9 with fail
      rw [← HWBX.out]
      clear HWBX c0 c1 c2
      by_cases h01 : j3 = 0 ∨ j3 = 1
      · have h2 := HZB.out
        have HPUT : Hid (∀ (W : World) (v : Value), v = .slice (some ⟨wbx.drew.heap.size, 0, none⟩) m m → W = wbx.drew.alloc (.cells ((zs m).map B8).toArray 5) → Calls Tryd.prog 19 #[.pointer (some ⟨p, 0, none⟩), .int .i64 j8, v] W fun e w' => e = .returned (.int .i64 (putE s j8 m)) ∧ ∃ bs', RF w1.heap.size bs' w' p (putS s j8 (zs m)) ∧ Fr [] w w' ∧ (w'.cell? ⟨wr.heap.size, 1, none⟩ = some (.int .i64 oid) ∧ w'.cell? ⟨w.heap.size, 2, none⟩ = some (.int .i64 z))) := Lib.hid fun W v hv hW => by
          have hfW : Fr [] wbx W := by rw [hW]; exact ((Fr.refl [] wbx).drew).alloc _
          have hrW := HRB.out.keep hfW
          have hown := own_mk wbx.drew m (by omega)
          rw [← hW] at hown
          have h := Put_F w1.heap.size bs W p s j8 (some ⟨wbx.drew.heap.size, 0, none⟩) m (zs m) hrW (by rw [zs_length]; omega) (fun h => by cases h) (by
            have h := own_bytes (l := zs m) (g := wbx.drew.heap.size) (cap := m) (B := wbx.drew.heap.size) (e := 5) (w := W) (by rw [zs_length]; exact hown)
            exact h)
          rw [zs_length, ← hv] at h
          refine h.mono ?_
          rintro e w' ⟨he, bs', h1, h2⟩
          refine ⟨he, bs', h1, hrW.clean HW.out (HFB.out.trans hfW) h2.1, ?_, ?_⟩
          · exact h2.1.cell (hfW.cell b1 (by simp)) (fun hm => by have := (HR.out.lt _ hm).2; exact absurd this (Nat.lt_irrefl _))
          · exact h2.1.cell (hfW.cell HZB.out (by simp)) (fun hm => by have := (HR.out.lt _ hm).1; have := HHB.out; simp only at *; omega)
        have hmk := make8 m (by omega) wbx.drew
        rcases h01 with rfl | rfl
        all_goals
          go_upto_region 13 with fail
          refine wp_region_held_drew (S := fun w' => w'.cell? ⟨wr.heap.size, 1, none⟩ = some (.int .i64 oid) ∧ w'.cell? ⟨w.heap.size, 2, none⟩ = some (.int .i64 z)) (by kernel_rfl) (by exact ⟨b1, h2⟩) (fun hHd => ?_)
          refine wpAnyH_take (i := 0) (v := ?_) rfl (by kernel_rfl) (by kernel_rfl) (by kernel_rfl) (fun _ _ _ h => h) (Or.inl ⟨by rfl, ?_⟩) (by assumption) ?_
          rotate_left
          · (intro w hSw; (try dsimp only at hSw); go_simp; (try with_reducible rfl))
          try simp only [Act.put, List.setIfInBounds_toArray, List.set_cons_zero, List.set_cons_succ, List.getElem_toArray, List.getElem_cons_zero, List.getElem_cons_succ]
          refine wpAnyH_take (i := 1) (v := ?_) rfl (by kernel_rfl) (by kernel_rfl) (by kernel_rfl) (fun _ _ _ h => h) (Or.inl ⟨by rfl, ?_⟩) (by assumption) ?_
          rotate_left
          · (intro w hSw; (try dsimp only at hSw); go_simp; (try with_reducible rfl))
          try simp only [Act.put, List.setIfInBounds_toArray, List.set_cons_zero, List.set_cons_succ, List.getElem_toArray, List.getElem_cons_zero, List.getElem_cons_succ]
          refine wpAnyH_take (i := 2) (v := ?_) rfl (by kernel_rfl) (by kernel_rfl) (by kernel_rfl) (fun _ _ _ h => h) (Or.inl ⟨by rfl, ?_⟩) (by assumption) ?_
          rotate_left
          · (intro w hSw; (try dsimp only at hSw); go_simp; (try with_reducible rfl))
          try simp only [Act.put, List.setIfInBounds_toArray, List.set_cons_zero, List.set_cons_succ, List.getElem_toArray, List.getElem_cons_zero, List.getElem_cons_succ]
          refine wpAnyH_take (i := 3) (v := ?_) rfl (by kernel_rfl) (by kernel_rfl) (by kernel_rfl) (fun _ _ _ h => h) (Or.inl ⟨by rfl, ?_⟩) (by assumption) ?_
          rotate_left
          · (intro w hSw; (try dsimp only at hSw); go_simp; (try with_reducible rfl))
          try simp only [Act.put, List.setIfInBounds_toArray, List.set_cons_zero, List.set_cons_succ, List.getElem_toArray, List.getElem_cons_zero, List.getElem_cons_succ]
          refine wpAnyH_take (i := 4) (v := ?_) rfl (by kernel_rfl) (by kernel_rfl) (by kernel_rfl) (fun _ _ _ h => h) (Or.inl ⟨by rfl, ?_⟩) (by assumption) ?_
          rotate_left
          · (intro w hSw; (try dsimp only at hSw); go_simp; (try with_reducible rfl))
          try simp only [Act.put, List.setIfInBounds_toArray, List.set_cons_zero, List.set_cons_succ, List.getElem_toArray, List.getElem_cons_zero, List.getElem_cons_succ]
          refine wpAnyH_take (i := 5) (v := ?_) rfl (by kernel_rfl) (by kernel_rfl) (by kernel_rfl) (fun _ _ _ h => h) (Or.inl ⟨by rfl, ?_⟩) (by assumption) ?_
          rotate_left
          · (intro w hSw; (try dsimp only at hSw); go_simp; (try with_reducible rfl))
          try simp only [Act.put, List.setIfInBounds_toArray, List.set_cons_zero, List.set_cons_succ, List.getElem_toArray, List.getElem_cons_zero, List.getElem_cons_succ]
          refine wpAnyH_take (i := 6) (v := ?_) rfl (by kernel_rfl) (by kernel_rfl) (by kernel_rfl) (fun _ _ _ h => h) (Or.inl ⟨by rfl, ?_⟩) (by assumption) ?_
          rotate_left
          · (intro w hSw; (try dsimp only at hSw); go_simp; (try with_reducible rfl))
          try simp only [Act.put, List.setIfInBounds_toArray, List.set_cons_zero, List.set_cons_succ, List.getElem_toArray, List.getElem_cons_zero, List.getElem_cons_succ]
          refine wpAnyH_take (i := 7) (v := ?_) rfl (by kernel_rfl) (by kernel_rfl) (by kernel_rfl) (fun _ _ _ h => h) (Or.inl ⟨by rfl, ?_⟩) (by assumption) ?_
          rotate_left
          · (intro w hSw; (try dsimp only at hSw); go_simp; (try with_reducible rfl))
          try simp only [Act.put, List.setIfInBounds_toArray, List.set_cons_zero, List.set_cons_succ, List.getElem_toArray, List.getElem_cons_zero, List.getElem_cons_succ]
          refine wpAnyH_ready (rs := [8]) (by kernel_rfl) (by simp) ?_
          refine AllReadyH.cons rfl (fun K hK => ?_) AllReadyH.nil
          go_simp
          refine hK.out _ _ (by exact ⟨(((Fr.refl [] (wbx.drew)).alloc _)).cell b1 (by simp), (((Fr.refl [] (wbx.drew)).alloc _)).cell h2 (by simp)⟩) (fun hHd8 => ?_)
          clear hK K hHd
          try simp only [Act.put, List.setIfInBounds_toArray, List.set_cons_zero, List.set_cons_succ, List.getElem_toArray, List.getElem_cons_zero, List.getElem_cons_succ]
          refine wpAnyH_ready (rs := [9]) (by kernel_rfl) (by simp) ?_
          refine AllReadyH.cons rfl (fun K hK => ?_) AllReadyH.nil
          go_simp
          refine (HPUT.out _ _ rfl rfl).mono ?_
          rintro e w4 ⟨rfl, bs4, hr4, hs4, hc4⟩
          go_simp
          refine hK.out _ _ (by exact hc4) (fun hHd9 => ?_)
          clear hK K hHd8
          try simp only [Act.put, List.setIfInBounds_toArray, List.set_cons_zero, List.set_cons_succ, List.getElem_toArray, List.getElem_cons_zero, List.getElem_cons_succ]
          refine wpAnyH_done (by kernel_rfl) ?_ _
          have HR4 := Lib.hid hr4
          have HF4 := Lib.hid hs4
          have HZ4 := Lib.hid hc4.2
          clear hr4 hs4 hc4 h2 HPUT hmk
          go_wp2
          go_roundw
          case rel => exact ⟨k + 1, bs4, _, by omega, by go_num, HR4.out, HF4.out, HZ4.out⟩
          case measure => simp [intOf] <;> omega
      · by_cases h2 : j3 = 2
        · subst h2
          clear h01
          go_wp2_with fail
          refine (Alloc_F w1.heap.size bs wbx p s HRB.out).mono ?_
          rintro e w4 ⟨rfl, bs4, hr4, hs4⟩
          have HR4 := Lib.hid hr4
          have HF4 := Lib.hid (HRB.out.clean HW.out HFB.out hs4.1)
          have HZ4 := Lib.hid (hs4.1.cell HZB.out (fun hm => by have := (HR.out.lt _ hm).1; have := HHB.out; simp only at *; omega))
          clear hr4 hs4
          go_wp2
          go_roundw
          case rel => exact ⟨k + 1, bs4, _, by omega, by go_num, HR4.out, HF4.out, HZ4.out⟩
          case measure => simp [intOf] <;> omega
        · obtain rfl : j3 = 3 := by omega
          clear h01 h2
          go_wp2_with fail
          refine (Free_F w1.heap.size bs wbx p s j8 HRB.out).mono ?_
          rintro e w4 ⟨rfl, bs4, hr4, hs4⟩
          have HR4 := Lib.hid hr4
          have HF4 := Lib.hid (HRB.out.clean HW.out HFB.out hs4.1)
          have HZ4 := Lib.hid (hs4.1.cell HZB.out (fun hm => by have := (HR.out.lt _ hm).1; have := HHB.out; simp only at *; omega))
          clear hr4 hs4
          go_wp2
          go_roundw
          case rel => exact ⟨k + 1, bs4, _, by omega, by go_num, HR4.out, HF4.out, HZ4.out⟩
          case measure => simp [intOf] <;> omega
    · have hok := HR.out.ok
      have hlen := fileB_length (kd := s.kd) (vr := s.vr) hok.dat
      have hmul : s.R.length * s.sz ≤ 16711680 := Nat.mul_le_mul hok.len hok.hi
      have HOPEN := Lib.hid (openB_file hok.kd hok.vr hok.lo hok.hi hok.len hok.dat)
      obtain ⟨L, hL⟩ : ∃ L, L = fileB s.kd s.vr s.sz s.R := ⟨_, rfl⟩
      have HBY := Lib.hid (Bytes_F w1.heap.size bs wr p s HR.out (nib_keep HN.out HFR.out))
      rw [← hL] at HOPEN HBY hlen
      have HL := Lib.hid hL
      have hLb : L.length ≤ 140737488351300 := by omega
      have HLEN := Lib.hid hlen
      have hszb : s.sz ≤ 255 := hok.hi
      have hRb : s.R.length ≤ 65536 := hok.len
      clear hok hL hlen hmul
      go_wp2_with fail
      refine HBY.out.mono ?_
      rintro e w4 ⟨v, rfl, hv⟩
      obtain ⟨g4, c4, rfl, -, -, hb4, hf4⟩ := hv.bytes
      have hcap4 := hv.cap
      have HB4 := Lib.hid hb4
      have HF4 := Lib.hid (HFR.out.trans hf4)
      have HR4 := Lib.hid (HR.out.keep hf4)
      clear hv hb4 hf4 HBY
      go_wp2_with fail
      refine (clone_any (some ⟨g4, 0, none⟩) c4 L w4 hLb (fun h => by cases h) HB4.out).mono ?_
      rintro e w5 ⟨v, rfl, hv⟩
      obtain ⟨g5, c5, rfl, -, -, hb5, hf5⟩ := hv.bytes
      have HCAP := Lib.hid hv.cap
      have HB5 := Lib.hid hb5
      have HF5 := Lib.hid (HF4.out.trans hf5)
      have HB45 := Lib.hid (HB4.out.keep hf5)
      have HR5 := Lib.hid (HR4.out.keep hf5)
      clear hv hb5 hf5
      go_wp2_with fail
      refine (Open_F (some ⟨g5, 0, none⟩) c5 L w5 hLb HCAP.out HB5.out (nib_keep HN.out HF5.out)).mono ?_
      rintro e w6 (⟨E, hE, rfl, hf6⟩ | ⟨kd', vr', sz', R', p6, bs6, hE, rfl, hr6, hf6⟩)
      · exfalso
        rw [HOPEN.out] at hE
        cases hE
      have HEQ : kd' = s.kd ∧ vr' = s.vr ∧ sz' = s.sz ∧ R' = s.R := by
        rw [HOPEN.out] at hE
        simpa [eq_comm] using hE
      obtain ⟨rfl, rfl, rfl, rfl⟩ := HEQ
      have HR6 := Lib.hid hr6
      have HF6 := Lib.hid (HF5.out.trans hf6)
      have HB46 := Lib.hid (HB45.out.keep hf6)
      have HRR6 := Lib.hid (HR5.out.keep hf6)
      clear hr6 hf6 hE
      have HBY := Lib.hid (Bytes_F w5.heap.size bs6 w6 p6 _ HR6.out (nib_keep HN.out HF6.out))
      simp only at HBY
      rw [← HL.out] at HBY
      go_wp2_with fail
      refine HBY.out.mono ?_
      rintro e w7 ⟨v, rfl, hv⟩
      obtain ⟨g7, c7, rfl, -, -, hb7, hf7⟩ := hv.bytes
      have HB7 := Lib.hid hb7
      have HF7 := Lib.hid (HF6.out.trans hf7)
      have HB47 := Lib.hid (HB46.out.keep hf7)
      have HR7 := Lib.hid (HR6.out.keep hf7)
      have HRR7 := Lib.hid (HRR6.out.keep hf7)
      have HSM := Lib.hid (same_any (some ⟨g7, 0, none⟩) (some ⟨g4, 0, none⟩) c7 c4 L L w7 (fun h => by cases h) (fun h => by cases h) HB7.out HB47.out)
      rw [beq_self_eq_true] at HSM
      clear hv hb7 hf7 HBY
      go_wp2_with fail
      refine HSM.out.mono ?_
      rintro e w' ⟨rfl, rfl⟩
      go_wp2_with fail
      refine (Count_F w5.heap.size bs6 w7 p6 _ HR7.out).mono ?_
      rintro e w' ⟨rfl, rfl⟩
      go_wp2_with fail
      refine (Count_F w1.heap.size bs w7 p s HRR7.out).mono ?_
      rintro e w' ⟨rfl, rfl⟩
      go_wp2_with fail
      refine (Live_F w5.heap.size bs6 w7 p6 _ HR7.out).mono ?_
      rintro e w' ⟨rfl, rfl⟩
      go_wp2_with fail
      refine (Live_F w1.heap.size bs w7 p s HRR7.out).mono ?_
      rintro e w' ⟨rfl, rfl⟩
      go_wp2_with fail
      refine (Count_F w1.heap.size bs w7 p s HRR7.out).mono ?_
      rintro e w' ⟨rfl, rfl⟩
      go_wp2_with fail
      refine (Size_F w1.heap.size bs w7 p s HRR7.out).mono ?_
      rintro e w' ⟨rfl, rfl⟩
      obtain ⟨M, hM⟩ : ∃ M, M = s.R.length * s.sz := ⟨_, rfl⟩
      have hMb : M ≤ 16711680 := by rw [hM]; exact Nat.mul_le_mul hRb hszb
      have hM2 : ((s.R.length : Int) * (s.sz : Int)) = (M : Int) := by rw [hM]; exact (Int.natCast_mul _ _).symm
      have e4 : IntKind.i64.wrap ((s.R.length : Int) * (s.sz : Int)) = (M : Int) := by rw [hM2]; exact IntWalk.i64_in _ (by omega)
      have hLM : L.length = 16 + M := by rw [HLEN.out, hM]
      have e5 : IntKind.i64.wrap (16 + (M : Int)) = (L.length : Int) := by rw [IntWalk.i64_in _ (by omega)]; omega
      clear hM2 hM hLM hLb
      go_wp2
      go_ret
      exact ⟨rfl, HF7.out⟩
end Go.Proofs.YtibhbfmljibeaaaDoor
