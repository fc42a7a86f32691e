/- The walks of the laws RectwoNames, RectwoGroups, RectwoGroupBytes. -/
import Derived.Test.YtmekplamjlnhcaaRecO
namespace Go.Proofs.Ytmekplamjlnhcaa
open Go.RowKit
attribute [local go_sem ↓] Go.wp_at_zero Go.wp_at_succ
theorem rectwoNames_walk (w : World) : Calls Try.prog 3 #[] w fun e w' => e = .returned (.bool true) ∧ Fr [] w w' := by
  go_enter Try.func3, Try.ntmps3
  go_wp2_with fail
  refine (speaks15 w).mono ?_
  rintro e w1 ⟨rfl, hf⟩
  go_wp2
  go_ret
  exact ⟨rfl, hf⟩
theorem nm_of (l a r : List UInt8) (n q wd : Nat) (h : l = a ++ (by8 wd n ++ r)) (hq : a.length = q) (hn : n < 256 ^ wd) : nm l q wd = n := by
  subst hq
  subst h
  exact nm_at a _ r n wd rfl hn
theorem gDec_gB (g : GroupV) (h : gFine g = true) : gDec (gB g) = { g with live := true } := by
  obtain ⟨⟨a1, a2⟩, ⟨b1, b2⟩, ⟨c1, c2⟩, ⟨d1, d2⟩, ⟨e1, e2⟩, ⟨f1, f2⟩⟩ := gFine_bd h
  have p4 : (256 : Nat) ^ 4 = 4294967296 := by simp
  have p2 : (256 : Nat) ^ 2 = 65536 := by simp
  have k1 := nm_of (gB g) [] (by8 4 g.ow.toNat ++ ptrs [g.out, g.inn, g.lp, g.nx]) g.ty.toNat 0 2 (by simp [gB]) rfl (by omega)
  have k2 := nm_of (gB g) (by8 2 g.ty.toNat) (ptrs [g.out, g.inn, g.lp, g.nx]) g.ow.toNat 2 4 (by simp [gB]) (by8_length _ _) (by omega)
  have k3 := nm_of (gB g) (by8 2 g.ty.toNat ++ by8 4 g.ow.toNat) (ptrs [g.inn, g.lp, g.nx]) (g.out + 1).toNat 6 4 (by simp [gB, ptrs]) (by simp [by8_length]) (by omega)
  have k4 := nm_of (gB g) (by8 2 g.ty.toNat ++ by8 4 g.ow.toNat ++ ptrs [g.out]) (ptrs [g.lp, g.nx]) (g.inn + 1).toNat 10 4 (by simp [gB, ptrs]) (by simp [by8_length, ptrs_length]) (by omega)
  have k5 := nm_of (gB g) (by8 2 g.ty.toNat ++ by8 4 g.ow.toNat ++ ptrs [g.out, g.inn]) (ptrs [g.nx]) (g.lp + 1).toNat 14 4 (by simp [gB, ptrs]) (by simp [by8_length, ptrs_length]) (by omega)
  have k6 := nm_of (gB g) (by8 2 g.ty.toNat ++ by8 4 g.ow.toNat ++ ptrs [g.out, g.inn, g.lp]) [] (g.nx + 1).toNat 18 4 (by simp [gB, ptrs]) (by simp [by8_length, ptrs_length]) (by omega)
  unfold gDec
  rw [k1, k2, k3, k4, k5, k6]
  obtain ⟨live, ty, ow, out, inn, lp, nx⟩ := g
  simp only at *
  simp only [GroupV.mk.injEq, true_and]
  omega
set_option maxHeartbeats 1600000 in
set_option maxRecDepth 100000 in
theorem rectwoGroups_walk (live : Bool) (ty ow out inn lp nx : Int) (w : World) :
    Calls Try.prog 6 #[.agg #[.bool live, .int .i64 ty, .int .i64 ow, .int .i64 out, .int .i64 inn, .int .i64 lp, .int .i64 nx]] w fun e w' => e = .returned (.bool true) ∧ Fr [] w w' := by
  go_enter Try.func6, Try.ntmps6
  go_wp2_with fail
  obtain ⟨wa, hwa⟩ : ∃ wa, wa = w.alloc (.cells #[.bool live, .int .i64 ty, .int .i64 ow, .int .i64 out, .int .i64 inn, .int .i64 lp, .int .i64 nx] 44) := ⟨_, rfl⟩
  rw [← hwa]
  have hfa : Fr [] w wa := by rw [hwa]; exact (Fr.refl _ _).alloc _
  have hba : wa.heap[w.heap.size]? = some (.cells #[.bool live, .int .i64 ty, .int .i64 ow, .int .i64 out, .int .i64 inn, .int .i64 lp, .int .i64 nx] 44) := by rw [hwa]; exact heap_alloc_new w _
  clear hwa
  refine (speaks15 wa).mono ?_
  rintro e w1 ⟨rfl, hf1⟩
  have hb1 := hf1.obj hba (by simp)
  have HB1 := Lib.hid hb1
  have HF1 := Lib.hid (hfa.trans hf1)
  have x0 := cell_of_row w1 _ 0 _ _ _ hb1
  have x1 := cell_of_row w1 _ 1 _ _ _ hb1
  have x2 := cell_of_row w1 _ 2 _ _ _ hb1
  have x3 := cell_of_row w1 _ 3 _ _ _ hb1
  have x4 := cell_of_row w1 _ 4 _ _ _ hb1
  have x5 := cell_of_row w1 _ 5 _ _ _ hb1
  have x6 := cell_of_row w1 _ 6 _ _ _ hb1
  clear hfa hba hf1 hb1
  cases hfin : gFine ⟨live, ty, ow, out, inn, lp, nx⟩
  · go_wp2_with fail
    refine (PutGroup_no live ty ow out inn lp nx w1 hfin).mono ?_
    rintro e w2 ⟨rfl, hf2⟩
    have hb2 := hf2.obj HB1.out (by simp)
    have HF2 := Lib.hid (HF1.out.trans hf2)
    have x0 := cell_of_row w2 _ 0 _ _ _ hb2
    have x1 := cell_of_row w2 _ 1 _ _ _ hb2
    have x2 := cell_of_row w2 _ 2 _ _ _ hb2
    have x3 := cell_of_row w2 _ 3 _ _ _ hb2
    have x4 := cell_of_row w2 _ 4 _ _ _ hb2
    have x5 := cell_of_row w2 _ 5 _ _ _ hb2
    have x6 := cell_of_row w2 _ 6 _ _ _ hb2
    clear hb2 hf2
    go_wp2_with fail
    refine (refPutGroup_no live ty ow out inn lp nx w2 hfin).mono ?_
    rintro e w3 ⟨v, rfl, hv⟩
    have HF3 := Lib.hid (HF2.out.trans hv.fr)
    obtain ⟨g, cap, rfl, _, _, hbv, _⟩ := hv.bytes
    have hs := same_any none (some ⟨g, 0, none⟩) 0 cap [] [] w3 (fun _ => rfl) (fun h => by cases h) (Bytes.nil _ _) hbv
    have HS := Lib.hid hs
    clear hv hbv hfin hs
    go_wp2_with fail
    refine HS.out.mono ?_
    rintro e w4 ⟨rfl, rfl⟩
    go_wp2
    go_ret
    exact ⟨rfl, HF3.out⟩
  · go_wp2_with fail
    refine (PutGroup_yes live ty ow out inn lp nx w1 hfin).mono ?_
    rintro e w2 ⟨v, rfl, hv⟩
    have hb2 := hv.fr.obj HB1.out (by simp)
    have HB2 := Lib.hid hb2
    have HF2 := Lib.hid (HF1.out.trans hv.fr)
    have x0 := cell_of_row w2 _ 0 _ _ _ hb2
    have x1 := cell_of_row w2 _ 1 _ _ _ hb2
    have x2 := cell_of_row w2 _ 2 _ _ _ hb2
    have x3 := cell_of_row w2 _ 3 _ _ _ hb2
    have x4 := cell_of_row w2 _ 4 _ _ _ hb2
    have x5 := cell_of_row w2 _ 5 _ _ _ hb2
    have x6 := cell_of_row w2 _ 6 _ _ _ hb2
    obtain ⟨g, cap, rfl, _, _, hbv, _⟩ := hv.bytes
    have HV := Lib.hid hbv
    clear hb2 hv hbv
    go_wp2_with fail
    refine (refPutGroup_yes live ty ow out inn lp nx w2 hfin).mono ?_
    rintro e w3 ⟨u, rfl, hu⟩
    have HF3 := Lib.hid (HF2.out.trans hu.fr)
    have HB3 := Lib.hid (hu.fr.obj HB2.out (by simp))
    have HV3 := Lib.hid (HV.out.keep hu.fr)
    obtain ⟨g', cap', rfl, _, _, hbu, _⟩ := hu.bytes
    have hs := same_any (some ⟨g, 0, none⟩) (some ⟨g', 0, none⟩) cap cap' _ _ w3 (fun h => by cases h) (fun h => by cases h) HV3.out hbu
    rw [beq_self_eq_true] at hs
    have HS := Lib.hid hs
    have hgd := gDec_gB _ hfin
    have hgot : gGot (gB ⟨live, ty, ow, out, inn, lp, nx⟩) = .tuple #[.agg #[.bool true, .int .i64 ty, .int .i64 ow, .int .i64 out, .int .i64 inn, .int .i64 lp, .int .i64 nx], .int .i64 0] := by
      rw [gGot_yes (by rw [hgd]; exact hfin), hgd]
      rfl
    have HGT := Lib.hid hgot
    clear hu hbu hfin hs hgd hgot
    go_wp2_with fail
    refine HS.out.mono ?_
    rintro e w4 ⟨rfl, rfl⟩
    go_wp2_with fail
    refine (GetGroup_any (some ⟨g, 0, none⟩) cap _ w3 (gB_length _) HV3.out).mono ?_
    rintro e w4 ⟨rfl, hf4⟩
    rw [HGT.out]
    have hb4 := hf4.obj HB3.out (by simp)
    have HF4 := Lib.hid (HF3.out.trans hf4)
    have y0 := cell_of_row w4 _ 0 _ _ _ hb4
    have y1 := cell_of_row w4 _ 1 _ _ _ hb4
    have y2 := cell_of_row w4 _ 2 _ _ _ hb4
    have y3 := cell_of_row w4 _ 3 _ _ _ hb4
    have y4 := cell_of_row w4 _ 4 _ _ _ hb4
    have y5 := cell_of_row w4 _ 5 _ _ _ hb4
    have y6 := cell_of_row w4 _ 6 _ _ _ hb4
    have z0 := frozen_of_row w4 _ 0 _ _ hb4
    have hlt := (Array.getElem?_eq_some_iff.1 hb4).1
    clear hb4 hf4 x0 x1 x2 x3 x4 x5 x6
    go_wp2
    go_ret
    exact ⟨rfl, by repeat (first | exact HF4.out | refine Fr.alloc ?_ _ | refine Fr.setCell ?_ (by simp) _)⟩
end Go.Proofs.Ytmekplamjlnhcaa
