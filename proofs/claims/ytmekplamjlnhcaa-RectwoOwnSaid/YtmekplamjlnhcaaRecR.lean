/- The walk of the law RectwoRels. -/
import Derived.Test.YtmekplamjlnhcaaRecP
namespace Go.Proofs.Ytmekplamjlnhcaa
open Go.RowKit
attribute [local go_sem ↓] Go.wp_at_zero Go.wp_at_succ
set_option maxRecDepth 100000 in
set_option maxHeartbeats 1600000 in
theorem copyRel_any (live : Bool) (fr to fp tp fn tn ty ov : Int) (sa : Option Addr) (sc : Nat) (sl : List UInt8) (w : World) (hl : sl.length ≤ 140737488351300) (hno : sa = none → sc = 0) (hb : Bytes w sa sl) :
    Calls Try.prog 13 #[.agg #[.bool live, .int .i64 fr, .int .i64 to, .int .i64 fp, .int .i64 tp, .int .i64 fn, .int .i64 tn, .int .i64 ty, .int .i64 ov, .slice sa sl.length sc]] w fun e w' => ∃ g cap, e = .returned (.agg #[.bool live, .int .i64 fr, .int .i64 to, .int .i64 fp, .int .i64 tp, .int .i64 fn, .int .i64 tn, .int .i64 ty, .int .i64 ov, .slice (some ⟨g, 0, none⟩) sl.length cap]) ∧ Bytes w' (some ⟨g, 0, none⟩) sl ∧ Fr [] w w' := by
  have HB := Lib.hid hb
  have HNO := Lib.hid hno
  clear hb hno
  go_enter Try.func13, Try.ntmps13
  go_wp2_with fail
  obtain ⟨wa, hwa⟩ : ∃ wa, wa = (w.alloc (.cells #[.bool live, .int .i64 fr, .int .i64 to, .int .i64 fp, .int .i64 tp, .int .i64 fn, .int .i64 tn, .int .i64 ty, .int .i64 ov, .slice sa sl.length sc] 27)).alloc (.cells #[.bool false, .int .i64 0, .int .i64 0, .int .i64 0, .int .i64 0, .int .i64 0, .int .i64 0, .int .i64 0, .int .i64 0, .slice none 0 0] 27) := ⟨_, rfl⟩
  rw [← hwa]
  have hfa : Fr [] w wa := by rw [hwa]; exact ((Fr.refl _ _).alloc _).alloc _
  have h1 : wa.heap[w.heap.size]? = some (.cells #[.bool live, .int .i64 fr, .int .i64 to, .int .i64 fp, .int .i64 tp, .int .i64 fn, .int .i64 tn, .int .i64 ty, .int .i64 ov, .slice sa sl.length sc] 27) := by rw [hwa]; exact heap_alloc2_old w _ _
  have h2 : wa.heap[w.heap.size + 1]? = some (.cells #[.bool false, .int .i64 0, .int .i64 0, .int .i64 0, .int .i64 0, .int .i64 0, .int .i64 0, .int .i64 0, .int .i64 0, .slice none 0 0] 27) := by rw [hwa]; exact heap_alloc2_new w _ _
  clear hwa
  refine (clone_any sa sc sl wa hl HNO.out (HB.out.keep hfa)).mono ?_
  rintro e w1 ⟨v, rfl, hv⟩
  have HF1 := Lib.hid (hfa.trans hv.fr)
  have o1 := hv.fr.obj h1 (by simp)
  have o2 := hv.fr.obj h2 (by simp)
  have O1 := Lib.hid o1
  have O2 := Lib.hid o2
  have hsz := hv.fr.size
  have hlt2 := (Array.getElem?_eq_some_iff.1 h2).1
  obtain ⟨g, cap, rfl, hg, _, hbv, _⟩ := hv.bytes
  have HV := Lib.hid hbv
  have x0 := cell_of_row w1 _ 0 _ _ _ o1
  have x1 := cell_of_row w1 _ 1 _ _ _ o1
  have x2 := cell_of_row w1 _ 2 _ _ _ o1
  have x3 := cell_of_row w1 _ 3 _ _ _ o1
  have x4 := cell_of_row w1 _ 4 _ _ _ o1
  have x5 := cell_of_row w1 _ 5 _ _ _ o1
  have x6 := cell_of_row w1 _ 6 _ _ _ o1
  have x7 := cell_of_row w1 _ 7 _ _ _ o1
  have x8 := cell_of_row w1 _ 8 _ _ _ o1
  have x9 := cell_of_row w1 _ 9 _ _ _ o1
  have xf0 := frozen_of_row w1 _ 0 _ _ o1
  have xf1 := frozen_of_row w1 _ 1 _ _ o1
  have xf2 := frozen_of_row w1 _ 2 _ _ o1
  have xf3 := frozen_of_row w1 _ 3 _ _ o1
  have xf4 := frozen_of_row w1 _ 4 _ _ o1
  have xf5 := frozen_of_row w1 _ 5 _ _ o1
  have xf6 := frozen_of_row w1 _ 6 _ _ o1
  have xf7 := frozen_of_row w1 _ 7 _ _ o1
  have xf8 := frozen_of_row w1 _ 8 _ _ o1
  have xf9 := frozen_of_row w1 _ 9 _ _ o1
  have z0 := cell_of_row w1 _ 0 _ _ _ o2
  have z1 := cell_of_row w1 _ 1 _ _ _ o2
  have z2 := cell_of_row w1 _ 2 _ _ _ o2
  have z3 := cell_of_row w1 _ 3 _ _ _ o2
  have z4 := cell_of_row w1 _ 4 _ _ _ o2
  have z5 := cell_of_row w1 _ 5 _ _ _ o2
  have z6 := cell_of_row w1 _ 6 _ _ _ o2
  have z7 := cell_of_row w1 _ 7 _ _ _ o2
  have z8 := cell_of_row w1 _ 8 _ _ _ o2
  have z9 := cell_of_row w1 _ 9 _ _ _ o2
  have zf0 := frozen_of_row w1 _ 0 _ _ o2
  have zf1 := frozen_of_row w1 _ 1 _ _ o2
  have zf2 := frozen_of_row w1 _ 2 _ _ o2
  have zf3 := frozen_of_row w1 _ 3 _ _ o2
  have zf4 := frozen_of_row w1 _ 4 _ _ o2
  have zf5 := frozen_of_row w1 _ 5 _ _ o2
  have zf6 := frozen_of_row w1 _ 6 _ _ o2
  have zf7 := frozen_of_row w1 _ 7 _ _ o2
  have zf8 := frozen_of_row w1 _ 8 _ _ o2
  have zf9 := frozen_of_row w1 _ 9 _ _ o2
  clear hfa h1 h2 hv hbv o1 o2
  go_wp2
  obtain ⟨w2, hw2⟩ : ∃ w2, w2 = w1.setCell ⟨w.heap.size, 9, none⟩ (.slice (some ⟨g, 0, none⟩) sl.length cap) := ⟨_, rfl⟩
  rw [← hw2]
  have hf2 : Fr [] w w2 := by rw [hw2]; exact HF1.out.setCell (by simp) _
  have o3 : w2.heap[w.heap.size + 1]? = some (.cells #[.bool false, .int .i64 0, .int .i64 0, .int .i64 0, .int .i64 0, .int .i64 0, .int .i64 0, .int .i64 0, .int .i64 0, .slice none 0 0] 27) := by rw [hw2, heap_setCell_other _ _ _ _ (by simp)]; exact O2.out
  have hb2 : Bytes w2 (some ⟨g, 0, none⟩) sl := by rw [hw2]; exact HV.out.fr ((Fr.refl [w.heap.size] w1).setCell (by simp) _) (.inr fun ad e => by cases e; simp; omega)
  refine bodyPost_ret (v := .agg #[.bool live, .int .i64 fr, .int .i64 to, .int .i64 fp, .int .i64 tp, .int .i64 fn, .int .i64 tn, .int .i64 ty, .int .i64 ov, .slice (some ⟨g, 0, none⟩) sl.length cap]) ?_ rfl ⟨g, cap, rfl, hb2.fr (Fr.setCells (S := [w.heap.size + 1]) (by simp) [.bool live, .int .i64 fr, .int .i64 to, .int .i64 fp, .int .i64 tp, .int .i64 fn, .int .i64 tn, .int .i64 ty, .int .i64 ov, .slice (some ⟨g, 0, none⟩) sl.length cap] 0 w2 (Fr.refl _ _)) (.inr fun ad e => by cases e; simp; omega), Fr.setCells (by intro h; exfalso; omega) [.bool live, .int .i64 fr, .int .i64 to, .int .i64 fp, .int .i64 tp, .int .i64 fn, .int .i64 tn, .int .i64 ty, .int .i64 ov, .slice (some ⟨g, 0, none⟩) sl.length cap] 0 w2 hf2⟩
  exact results_cell_row Try.results13 _ _ (w.heap.size + 1) 27 _ (0, 0) _ rfl (obj_setCells o3 [.bool live, .int .i64 fr, .int .i64 to, .int .i64 fp, .int .i64 tp, .int .i64 fn, .int .i64 tn, .int .i64 ty, .int .i64 ov, .slice (some ⟨g, 0, none⟩) sl.length cap] rfl) Try.underlying27 rfl infoR
theorem rDec_rB (r : RelV) (h : rFine r = true) : rDec (rB r) = { r with live := true } := by
  obtain ⟨⟨a1, a2⟩, ⟨b1, b2⟩, ⟨c1, c2⟩, ⟨d1, d2⟩, ⟨e1, e2⟩, ⟨f1, f2⟩, ⟨g1, g2⟩, ⟨i1, i2⟩, j1⟩ := rFine_bd h
  have p4 : (256 : Nat) ^ 4 = 4294967296 := by simp
  have p2 : (256 : Nat) ^ 2 = 65536 := by simp
  have k1 := nm_of (rB r) [] (by8 4 r.to.toNat ++ by8 2 r.ty.toNat ++ ptrs [r.fp, r.fn, r.tp, r.tn, r.ov] ++ r.sl) r.fr.toNat 0 4 (by simp [rB]) rfl (by omega)
  have k2 := nm_of (rB r) (by8 4 r.fr.toNat) (by8 2 r.ty.toNat ++ ptrs [r.fp, r.fn, r.tp, r.tn, r.ov] ++ r.sl) r.to.toNat 4 4 (by simp [rB]) (by8_length _ _) (by omega)
  have k3 := nm_of (rB r) (by8 4 r.fr.toNat ++ by8 4 r.to.toNat) (ptrs [r.fp, r.fn, r.tp, r.tn, r.ov] ++ r.sl) r.ty.toNat 8 2 (by simp [rB]) (by simp [by8_length]) (by omega)
  have k4 := nm_of (rB r) (by8 4 r.fr.toNat ++ by8 4 r.to.toNat ++ by8 2 r.ty.toNat) (ptrs [r.fn, r.tp, r.tn, r.ov] ++ r.sl) (r.fp + 1).toNat 10 4 (by simp [rB, ptrs]) (by simp [by8_length]) (by omega)
  have k5 := nm_of (rB r) (by8 4 r.fr.toNat ++ by8 4 r.to.toNat ++ by8 2 r.ty.toNat ++ ptrs [r.fp]) (ptrs [r.tp, r.tn, r.ov] ++ r.sl) (r.fn + 1).toNat 14 4 (by simp [rB, ptrs]) (by simp [by8_length, ptrs_length]) (by omega)
  have k6 := nm_of (rB r) (by8 4 r.fr.toNat ++ by8 4 r.to.toNat ++ by8 2 r.ty.toNat ++ ptrs [r.fp, r.fn]) (ptrs [r.tn, r.ov] ++ r.sl) (r.tp + 1).toNat 18 4 (by simp [rB, ptrs]) (by simp [by8_length, ptrs_length]) (by omega)
  have k7 := nm_of (rB r) (by8 4 r.fr.toNat ++ by8 4 r.to.toNat ++ by8 2 r.ty.toNat ++ ptrs [r.fp, r.fn, r.tp]) (ptrs [r.ov] ++ r.sl) (r.tn + 1).toNat 22 4 (by simp [rB, ptrs]) (by simp [by8_length, ptrs_length]) (by omega)
  have k8 := nm_of (rB r) (by8 4 r.fr.toNat ++ by8 4 r.to.toNat ++ by8 2 r.ty.toNat ++ ptrs [r.fp, r.fn, r.tp, r.tn]) r.sl (r.ov + 1).toNat 26 4 (by simp [rB, ptrs]) (by simp [by8_length, ptrs_length]) (by omega)
  have k9 : ((rB r).drop 30).take 32 = r.sl := by
    unfold rB
    rw [List.drop_append_of_le_length (by simp only [List.length_append, by8_length, ptrs_length]; simp), List.drop_of_length_le (by simp only [List.length_append, by8_length, ptrs_length]; simp), List.nil_append]
    exact List.take_of_length_le (by omega)
  unfold rDec
  rw [k1, k2, k3, k4, k5, k6, k7, k8, k9]
  obtain ⟨live, fr, to, fp, tp, fn, tn, ty, ov, sl⟩ := r
  simp only at *
  simp only [RelV.mk.injEq, true_and, and_true]
  omega
set_option maxHeartbeats 3200000 in
set_option maxRecDepth 100000 in
theorem rectwoRels_walk (live : Bool) (fr to fp tp fn tn ty ov : Int) (sa : Option Addr) (sc : Nat) (sl : List UInt8) (w : World) (hl : sl.length ≤ 140737488351300) (hno : sa = none → sc = 0) (hb : Bytes w sa sl) :
    Calls Try.prog 4 #[.agg #[.bool live, .int .i64 fr, .int .i64 to, .int .i64 fp, .int .i64 tp, .int .i64 fn, .int .i64 tn, .int .i64 ty, .int .i64 ov, .slice sa sl.length sc]] w fun e w' => e = .returned (.bool true) ∧ Fr [] w w' := by
  have HB := Lib.hid hb
  have HNO := Lib.hid hno
  clear hb hno
  go_enter Try.func4, Try.ntmps4
  go_wp2_with fail
  obtain ⟨wa, hwa⟩ : ∃ wa, wa = w.alloc (.cells #[.bool live, .int .i64 fr, .int .i64 to, .int .i64 fp, .int .i64 tp, .int .i64 fn, .int .i64 tn, .int .i64 ty, .int .i64 ov, .slice sa sl.length sc] 27) := ⟨_, rfl⟩
  rw [← hwa]
  have hfa : Fr [] w wa := by rw [hwa]; exact (Fr.refl _ _).alloc _
  have hba : wa.heap[w.heap.size]? = some (.cells #[.bool live, .int .i64 fr, .int .i64 to, .int .i64 fp, .int .i64 tp, .int .i64 fn, .int .i64 tn, .int .i64 ty, .int .i64 ov, .slice sa sl.length sc] 27) := by rw [hwa]; exact heap_alloc_new w _
  clear hwa
  refine (speaks15 wa).mono ?_
  rintro e w1 ⟨rfl, hf1⟩
  have hb1 := hf1.obj hba (by simp)
  have HB1 := Lib.hid hb1
  have HF1 := Lib.hid (hfa.trans hf1)
  have x0 := cell_of_row w1 _ 0 _ _ _ hb1
  have x1 := cell_of_row w1 _ 1 _ _ _ hb1
  have x2 := cell_of_row w1 _ 2 _ _ _ hb1
  have x3 := cell_of_row w1 _ 3 _ _ _ hb1
  have x4 := cell_of_row w1 _ 4 _ _ _ hb1
  have x5 := cell_of_row w1 _ 5 _ _ _ hb1
  have x6 := cell_of_row w1 _ 6 _ _ _ hb1
  have x7 := cell_of_row w1 _ 7 _ _ _ hb1
  have x8 := cell_of_row w1 _ 8 _ _ _ hb1
  have x9 := cell_of_row w1 _ 9 _ _ _ hb1
  clear hfa hba hf1 hb1
  go_wp2_with fail
  refine (copyRel_any live fr to fp tp fn tn ty ov sa sc sl w1 hl HNO.out (HB.out.keep HF1.out)).mono ?_
  rintro e w2 ⟨g, cap, rfl, hbg, hf2⟩
  have hb2 := hf2.obj HB1.out (by simp)
  have HB2 := Lib.hid hb2
  have HF2 := Lib.hid (HF1.out.trans hf2)
  have HG2 := Lib.hid hbg
  clear hf2 hb2 hbg x0 x1 x2 x3 x4 x5 x6 x7 x8 x9
  cases hfin : rFine ⟨live, fr, to, fp, tp, fn, tn, ty, ov, sl⟩
  · go_wp2_with fail
    refine (PutRel_no live fr to fp tp fn tn ty ov (some ⟨g, 0, none⟩) cap sl w2 hfin).mono ?_
    rintro e w3 ⟨rfl, hf3⟩
    have hb3 := hf3.obj HB2.out (by simp)
    have HF3 := Lib.hid (HF2.out.trans hf3)
    have x0 := cell_of_row w3 _ 0 _ _ _ hb3
    have x1 := cell_of_row w3 _ 1 _ _ _ hb3
    have x2 := cell_of_row w3 _ 2 _ _ _ hb3
    have x3 := cell_of_row w3 _ 3 _ _ _ hb3
    have x4 := cell_of_row w3 _ 4 _ _ _ hb3
    have x5 := cell_of_row w3 _ 5 _ _ _ hb3
    have x6 := cell_of_row w3 _ 6 _ _ _ hb3
    have x7 := cell_of_row w3 _ 7 _ _ _ hb3
    have x8 := cell_of_row w3 _ 8 _ _ _ hb3
    have x9 := cell_of_row w3 _ 9 _ _ _ hb3
    clear hb3 hf3
    go_wp2_with fail
    refine (refPutRel_no live fr to fp tp fn tn ty ov sa sc sl w3 hfin).mono ?_
    rintro e w4 ⟨v, rfl, hv⟩
    have HF4 := Lib.hid (HF3.out.trans hv.fr)
    obtain ⟨g4, cap4, rfl, _, _, hbv, _⟩ := hv.bytes
    have hs := same_any none (some ⟨g4, 0, none⟩) 0 cap4 [] [] w4 (fun _ => rfl) (fun h => by cases h) (Bytes.nil _ _) hbv
    have HS := Lib.hid hs
    clear hv hbv hfin hs
    go_wp2_with fail
    refine HS.out.mono ?_
    rintro e w5 ⟨rfl, rfl⟩
    go_wp2
    go_ret
    exact ⟨rfl, HF4.out⟩
  · go_wp2_with fail
    refine (PutRel_yes live fr to fp tp fn tn ty ov (some ⟨g, 0, none⟩) cap sl w2 hfin (fun h => by cases h) HG2.out).mono ?_
    rintro e w3 ⟨v, rfl, hv⟩
    have hb3 := hv.fr.obj HB2.out (by simp)
    have HB3 := Lib.hid hb3
    have HF3 := Lib.hid (HF2.out.trans hv.fr)
    have x0 := cell_of_row w3 _ 0 _ _ _ hb3
    have x1 := cell_of_row w3 _ 1 _ _ _ hb3
    have x2 := cell_of_row w3 _ 2 _ _ _ hb3
    have x3 := cell_of_row w3 _ 3 _ _ _ hb3
    have x4 := cell_of_row w3 _ 4 _ _ _ hb3
    have x5 := cell_of_row w3 _ 5 _ _ _ hb3
    have x6 := cell_of_row w3 _ 6 _ _ _ hb3
    have x7 := cell_of_row w3 _ 7 _ _ _ hb3
    have x8 := cell_of_row w3 _ 8 _ _ _ hb3
    have x9 := cell_of_row w3 _ 9 _ _ _ hb3
    obtain ⟨g3, cap3, rfl, _, _, hbv, _⟩ := hv.bytes
    have HV := Lib.hid hbv
    clear hb3 hv hbv
    go_wp2_with fail
    refine (refPutRel_yes live fr to fp tp fn tn ty ov sa sc sl w3 hfin (HB.out.keep HF3.out)).mono ?_
    rintro e w4 ⟨u, rfl, hu⟩
    have HF4 := Lib.hid (HF3.out.trans hu.fr)
    have HB4 := Lib.hid (hu.fr.obj HB3.out (by simp))
    have HV4 := Lib.hid (HV.out.keep hu.fr)
    obtain ⟨g4, cap4, rfl, _, _, hbu, _⟩ := hu.bytes
    have hs := same_any (some ⟨g3, 0, none⟩) (some ⟨g4, 0, none⟩) cap3 cap4 _ _ w4 (fun h => by cases h) (fun h => by cases h) HV4.out hbu
    rw [beq_self_eq_true] at hs
    have HS := Lib.hid hs
    have HFIN := Lib.hid hfin
    clear hu hbu hfin hs x0 x1 x2 x3 x4 x5 x6 x7 x8 x9
    go_wp2_with fail
    refine HS.out.mono ?_
    rintro e w5 ⟨rfl, rfl⟩
    go_wp2_with fail
    have hgd := rDec_rB _ HFIN.out
    have h62 : (rB ⟨live, fr, to, fp, tp, fn, tn, ty, ov, sl⟩).length = 62 := by rw [rB_length]; have := (rFine_bd HFIN.out).2.2.2.2.2.2.2.2; simp only at this ⊢; omega
    refine (GetRel_any (some ⟨g3, 0, none⟩) cap3 _ w4 h62 HV4.out).mono ?_
    rintro e w5 ⟨x, rfl, hgot, hf5⟩
    have hx : ∃ a7 c7, x = .tuple #[.agg #[.bool true, .int .i64 fr, .int .i64 to, .int .i64 fp, .int .i64 tp, .int .i64 fn, .int .i64 tn, .int .i64 ty, .int .i64 ov, .slice a7 sl.length c7], .int .i64 0] ∧ Bytes w5 a7 sl ∧ (a7 = none → c7 = 0) ∧ (∀ ad, a7 = some ad → w4.heap.size ≤ ad.block) := by
      unfold GotRel at hgot
      rw [if_pos (by rw [hgd]; exact HFIN.out), hgd] at hgot
      obtain ⟨v, rfl, ho⟩ := hgot
      obtain ⟨a, c, rfl, h1, _, _, h2, h3⟩ := Bytes.of_own ho
      exact ⟨a, c, rfl, h1, h2, fun ad e => (h3 ad e).1⟩
    obtain ⟨a7, c7, rfl, hby7, hno7, hlo7⟩ := hx
    have hlt4 := (Array.getElem?_eq_some_iff.1 HB4.out).1
    have HLO := Lib.hid hlo7
    have HLT := Lib.hid hlt4
    clear hlo7 hlt4
    have hb5 := hf5.obj HB4.out (by simp)
    have HF5 := Lib.hid (HF4.out.trans hf5)
    have HY7 := Lib.hid hby7
    have HN7 := Lib.hid hno7
    have HB5 := Lib.hid hb5
    have x0 := cell_of_row w5 _ 0 _ _ _ hb5
    have x1 := cell_of_row w5 _ 1 _ _ _ hb5
    have x2 := cell_of_row w5 _ 2 _ _ _ hb5
    have x3 := cell_of_row w5 _ 3 _ _ _ hb5
    have x4 := cell_of_row w5 _ 4 _ _ _ hb5
    have x5 := cell_of_row w5 _ 5 _ _ _ hb5
    have x6 := cell_of_row w5 _ 6 _ _ _ hb5
    have x7 := cell_of_row w5 _ 7 _ _ _ hb5
    have x8 := cell_of_row w5 _ 8 _ _ _ hb5
    have x9 := cell_of_row w5 _ 9 _ _ _ hb5
    have xf0 := frozen_of_row w5 _ 0 _ _ hb5
    have hlt := (Array.getElem?_eq_some_iff.1 hb5).1
    clear hgd h62 hgot hf5 hby7 hno7 hb5
    go_wp2_with fail
    have HFX := Lib.hid ((((Fr.refl [w.heap.size] w5).setCell (p := ⟨w.heap.size, 0, none⟩) (by simp) (.bool true)).alloc (.cells #[.bool true, .int .i64 fr, .int .i64 to, .int .i64 fp, .int .i64 tp, .int .i64 fn, .int .i64 tn, .int .i64 ty, .int .i64 ov, .slice a7 sl.length c7] 27)))
    have hba : Bytes ((w5.setCell ⟨w.heap.size, 0, none⟩ (.bool true)).alloc (.cells #[.bool true, .int .i64 fr, .int .i64 to, .int .i64 fp, .int .i64 tp, .int .i64 fn, .int .i64 tn, .int .i64 ty, .int .i64 ov, .slice a7 sl.length c7] 27)) a7 sl := HY7.out.fr HFX.out (.inr fun ad e => by have h := HLO.out ad e; have h2 := HLT.out; simp; omega)
    have hbb : Bytes ((w5.setCell ⟨w.heap.size, 0, none⟩ (.bool true)).alloc (.cells #[.bool true, .int .i64 fr, .int .i64 to, .int .i64 fp, .int .i64 tp, .int .i64 fn, .int .i64 tn, .int .i64 ty, .int .i64 ov, .slice a7 sl.length c7] 27)) sa sl := (HB.out.keep HF5.out).fr HFX.out (by
      rcases HB.out with h | ⟨b0, off0, e, hc⟩
      · exact .inl h
      · by_cases hs0 : sl = []
        · exact .inl hs0
        · refine .inr fun ad e2 => ?_
          have hp : 0 < sl.length := List.length_pos_iff.2 hs0
          have h3 := World.block_lt_of_cell? w _ (hc 0 hp)
          rw [e] at e2
          cases e2
          have h4 : b0 < w.heap.size := h3
          simp
          omega)
    refine (SameRel_any true fr to fp tp fn tn ty ov true fr to fp tp fn tn ty ov a7 sa c7 sc sl sl _ HN7.out HNO.out hba hbb rfl).mono ?_
    rintro e w6 ⟨rfl, hf6⟩
    have HF6 := Lib.hid hf6
    clear hba hbb hf6
    go_wp2
    go_ret
    exact ⟨rfl, ((HF5.out.setCell (by simp) _).alloc _).trans HF6.out⟩
end Go.Proofs.Ytmekplamjlnhcaa
