/- The document's record files: Free, Alloc. -/
import Derived.Test.YtkcipbjikimlfaaDoorMfC
namespace Go.Proofs.YtkcipbjikimlfaaDoor
open Go.RowKit
attribute [local go_sem ↓] Go.wp_at_zero Go.wp_at_succ
set_option maxRecDepth 100000 in
theorem Free9 (B : Nat) (bs : List Nat) (w : World) (p : Nat) (s : RFS) (id : Int) (h : MF B bs w p s) :
    Calls Tryd.prog 51 #[.pointer (some ⟨p, 0, none⟩), .int .i64 id] w fun e w' => e = .returned (.int .i64 (freE s id)) ∧ ∃ bs', MF B bs' w' p (freS s id) ∧ Stp bs w bs' w' := by
  have HU := Lib.hid (Used9 B bs w p s id h)
  have HMF := Lib.hid h
  have HBW := Lib.hid h.own
  by_cases hu : usedR s.R id = true
  · have HE : Hid (freE s id = 0) := Lib.hid (if_pos hu)
    have HS : Hid (freS s id = { s with R := freeR s.R id.toNat, low := min s.low id.toNat }) := Lib.hid (if_pos hu)
    obtain ⟨h1, h2, d, hd⟩ := usedR_lt hu
    obtain ⟨k, rfl⟩ : ∃ k : Nat, id = k := ⟨id.toNat, by omega⟩
    rw [Int.toNat_natCast] at hd HS
    obtain ⟨v, X, h, rfl⟩ := h
    obtain ⟨x0, x1, x2, x3⟩ := four h.obj
    obtain ⟨a, c, rfl, -⟩ := h.recs.sl
    obtain ⟨g, rfl, -, -⟩ := h.recs.pos (by rw [h.len]; omega)
    have hkX : k < X.length := by rw [h.len]; omega
    have hkXi : (k : Int) < (X.length : Int) := by omega
    have hk0 : (0 : Int) ≤ (k : Int) := by omega
    obtain ⟨m, hm⟩ : ∃ m, m = s.sz - 1 := ⟨_, rfl⟩
    have hlo := h.ok.lo
    have hhi := h.ok.hi
    have e1 : IntKind.i64.wrap ((s.sz : Int) - 1) = (m : Int) := by rw [IntWalk.i64_in _ (by omega)]; omega
    have HM : Hid (s.sz - 1 = m) := Lib.hid hm.symm
    have HMB : Hid (m ≤ 1000000) := Lib.hid (by omega)
    have HOKP : Hid (RFS.Ok { s with R := s.R.set k none, low := min s.low k }) := Lib.hid (h.ok.free k)
    have H := Lib.hid h
    rw [hu] at HU
    clear h hd hu hm hlo hhi x0 x1
    go_enter Tryd.func51, Tryd.ntmps51
    go_wp2_with fail
    refine HU.out.mono ?_
    rintro e w' ⟨rfl, rfl⟩
    go_upto_region 3 with fail
    refine region_late (fun w' => w'.cell? ⟨p, 3, none⟩ = some (.slice (some ⟨g, 0, none⟩) X.length c) ∧ w'.cell? ⟨p, 2, none⟩ = some (.int .i64 s.sz)) [13] (by kernel_rfl) (by exact ⟨x3, x2⟩) (fun hHd0 => ?_)
    refine wpAnyL_pure (i := 0) (v := ?_) rfl (by kernel_rfl) (by kernel_rfl) (by kernel_rfl) (by kernel_rfl) (by kernel_rfl) (fun _ _ _ h => h) (Or.inl ⟨by rfl, ?_⟩) (fun _ => hHd0) ?_
    rotate_left
    · (intro w _; go_simp; (try with_reducible rfl))
    try simp only [Act.put, List.setIfInBounds_toArray, List.set_cons_zero, List.set_cons_succ, List.getElem_toArray, List.getElem_cons_zero, List.getElem_cons_succ]
    refine wpAnyL_pure (i := 1) (v := ?_) rfl (by kernel_rfl) (by kernel_rfl) (by kernel_rfl) (by kernel_rfl) (by kernel_rfl) (fun _ _ _ h => h) (Or.inl ⟨by rfl, ?_⟩) (fun _ => hHd0) ?_
    rotate_left
    · (intro w _; go_simp; (try with_reducible rfl))
    try simp only [Act.put, List.setIfInBounds_toArray, List.set_cons_zero, List.set_cons_succ, List.getElem_toArray, List.getElem_cons_zero, List.getElem_cons_succ]
    refine wpAnyL_pure (i := 2) (v := ?_) rfl (by kernel_rfl) (by kernel_rfl) (by kernel_rfl) (by kernel_rfl) (by kernel_rfl) (fun _ _ _ h => h) (Or.inl ⟨by rfl, ?_⟩) (fun _ => hHd0) ?_
    rotate_left
    · (intro w _; go_simp; (try with_reducible rfl))
    try simp only [Act.put, List.setIfInBounds_toArray, List.set_cons_zero, List.set_cons_succ, List.getElem_toArray, List.getElem_cons_zero, List.getElem_cons_succ]
    refine wpAnyL_take (i := 3) (v := ?_) rfl (by kernel_rfl) (by kernel_rfl) (by kernel_rfl) (by kernel_rfl) (by kernel_rfl) (fun _ _ _ h => h) (Or.inl ⟨by rfl, ?_⟩) hHd0 ?_
    rotate_left
    · (intro w hSw; (try dsimp only at hSw); go_simp; (try with_reducible rfl))
    try simp only [Act.put, List.setIfInBounds_toArray, List.set_cons_zero, List.set_cons_succ, List.getElem_toArray, List.getElem_cons_zero, List.getElem_cons_succ]
    refine wpAnyL_pure (i := 4) (v := ?_) rfl (by kernel_rfl) (by kernel_rfl) (by kernel_rfl) (by kernel_rfl) (by kernel_rfl) (fun _ _ _ h => h) (Or.inl ⟨by rfl, ?_⟩) (fun _ => hHd0) ?_
    rotate_left
    · (intro w _; go_simp; (try with_reducible rfl))
    try simp only [Act.put, List.setIfInBounds_toArray, List.set_cons_zero, List.set_cons_succ, List.getElem_toArray, List.getElem_cons_zero, List.getElem_cons_succ]
    refine wpAnyL_pure (i := 5) (v := ?_) rfl (by kernel_rfl) (by kernel_rfl) (by kernel_rfl) (by kernel_rfl) (by kernel_rfl) (fun _ _ _ h => h) (Or.inl ⟨by rfl, ?_⟩) (fun _ => hHd0) ?_
    rotate_left
    · (intro w _; go_simp; (try with_reducible rfl))
    try simp only [Act.put, List.setIfInBounds_toArray, List.set_cons_zero, List.set_cons_succ, List.getElem_toArray, List.getElem_cons_zero, List.getElem_cons_succ]
    refine wpAnyL_pure (i := 6) (v := ?_) rfl (by kernel_rfl) (by kernel_rfl) (by kernel_rfl) (by kernel_rfl) (by kernel_rfl) (fun _ _ _ h => h) (Or.inl ⟨by rfl, ?_⟩) (fun _ => hHd0) ?_
    rotate_left
    · (intro w _; go_simp; (try with_reducible rfl))
    try simp only [Act.put, List.setIfInBounds_toArray, List.set_cons_zero, List.set_cons_succ, List.getElem_toArray, List.getElem_cons_zero, List.getElem_cons_succ]
    refine wpAnyL_pure (i := 7) (v := ?_) rfl (by kernel_rfl) (by kernel_rfl) (by kernel_rfl) (by kernel_rfl) (by kernel_rfl) (fun _ _ _ h => h) (Or.inl ⟨by rfl, ?_⟩) (fun _ => hHd0) ?_
    rotate_left
    · (intro w _; go_simp; (try with_reducible rfl))
    try simp only [Act.put, List.setIfInBounds_toArray, List.set_cons_zero, List.set_cons_succ, List.getElem_toArray, List.getElem_cons_zero, List.getElem_cons_succ]
    refine wpAnyL_take (i := 8) (v := ?_) rfl (by kernel_rfl) (by kernel_rfl) (by kernel_rfl) (by kernel_rfl) (by kernel_rfl) (fun _ _ _ h => h) (Or.inl ⟨by rfl, ?_⟩) hHd0 ?_
    rotate_left
    · (intro w hSw; (try dsimp only at hSw); go_simp; (try with_reducible rfl))
    try simp only [Act.put, List.setIfInBounds_toArray, List.set_cons_zero, List.set_cons_succ, List.getElem_toArray, List.getElem_cons_zero, List.getElem_cons_succ]
    refine wpAnyL_take (i := 9) (v := ?_) rfl (by kernel_rfl) (by kernel_rfl) (by kernel_rfl) (by kernel_rfl) (by kernel_rfl) (fun _ _ _ h => h) (Or.inl ⟨by rfl, ?_⟩) hHd0 ?_
    rotate_left
    · (intro w hSw; (try dsimp only at hSw); go_simp; (try with_reducible rfl))
    try simp only [Act.put, List.setIfInBounds_toArray, List.set_cons_zero, List.set_cons_succ, List.getElem_toArray, List.getElem_cons_zero, List.getElem_cons_succ]
    refine wpAnyL_ready (rs := [10]) (by kernel_rfl) (by simp) ?_
    refine (AllReadyL.cons rfl (fun K hK => ?_) AllReadyL.nil)
    go_simp
    refine (zeros_F m HMB.out w.drew).mono ?_
    rintro e w5 ⟨cv, rfl, hcv⟩
    obtain ⟨gd, gc, rfl, hgd, hgl, hco, hcf⟩ := hcv
    rw [zs_length] at hco ⊢
    have HCO := Lib.hid hco
    have HCF := Lib.hid (((Fr.refl [] w).drew).trans hcf)
    have HGD := Lib.hid (show w.heap.size ≤ gd from hgd)
    have h6 := (H.out.keep HCF.out).recs.cell hkX
    have h60 := h6.1
    have h61 := h6.2.1
    have h62 := h6.2.2 (k * 2)
    have h63 := h6.2.2 (k * 2 + 1)
    clear hco hcf hgd hgl h6
    go_simp
    refine hK.out _ _ (by exact ⟨HCF.out.cell x3 (by simp), HCF.out.cell x2 (by simp)⟩) (fun hHd1 => ?_)
    clear hK K hHd0
    try simp only [Act.put, List.setIfInBounds_toArray, List.set_cons_zero, List.set_cons_succ, List.getElem_toArray, List.getElem_cons_zero, List.getElem_cons_succ]
    refine wpAnyL_take (i := 11) (v := ?_) rfl (by kernel_rfl) (by kernel_rfl) (by kernel_rfl) (by kernel_rfl) (by kernel_rfl) (fun _ _ _ h => h) (Or.inl ⟨by rfl, ?_⟩) hHd1 ?_
    rotate_left
    · (intro w hSw; (try dsimp only at hSw); go_simp; (try with_reducible rfl))
    try simp only [Act.put, List.setIfInBounds_toArray, List.set_cons_zero, List.set_cons_succ, List.getElem_toArray, List.getElem_cons_zero, List.getElem_cons_succ]
    refine wpAnyL_take (i := 12) (v := ?_) rfl (by kernel_rfl) (by kernel_rfl) (by kernel_rfl) (by kernel_rfl) (by kernel_rfl) (fun _ _ _ h => h) (Or.inl ⟨by rfl, ?_⟩) hHd1 ?_
    rotate_left
    · (intro w hSw; (try dsimp only at hSw); go_simp; (try with_reducible rfl))
    try simp only [Act.put, List.setIfInBounds_toArray, List.set_cons_zero, List.set_cons_succ, List.getElem_toArray, List.getElem_cons_zero, List.getElem_cons_succ]
    refine wpAnyL_ready (rs := [13]) (by kernel_rfl) (by simp) ?_
    refine (AllReadyL.consLate rfl (by kernel_rfl) (fun K hK => ?_) AllReadyL.nil)
    go_simp
    refine hK.out _ _ ?_
    clear hK K hHd1
    try simp only [Act.put, List.setIfInBounds_toArray, List.set_cons_zero, List.set_cons_succ, List.getElem_toArray, List.getElem_cons_zero, List.getElem_cons_succ]
    refine wpAnyL_done (by kernel_rfl) ?_ _
    go_wp2
    go_ret
    have hy : w5.ownsRow B 5 1 (RI.v ⟨false, some ⟨gd, 0, none⟩, gc, zs m⟩) (zs m).length ((zs m).map B8) := by
      have h := own_base HCO.out (show B ≤ w.drew.heap.size from HBW.out)
      unfold RI.v
      rw [zs_length]
      exact h
    have hm := MFH.set (id := k) (lw := min s.low k) (o := none) (y := ⟨false, some ⟨gd, 0, none⟩, gc, zs m⟩) (H.out.keep HCF.out) hy (by show (false, zs m) = (false, zs (s.sz - 1)); rw [HM.out]) HOKP.out
    obtain ⟨q1, q2, q3⟩ := hm
    unfold RI.v at q1 q2
    rw [zs_length] at q1 q2
    refine ⟨by rw [HE.out]; rfl, _, ⟨_, _, by rw [HS.out]; exact q1, rfl⟩, ?_⟩
    refine ⟨((HCF.out.mono (by simp)).trans (q2.mono (fun i hi _ => by simp at hi; subst hi; exact List.mem_cons_of_mem _ (mlB_v rfl)))), fun i hi => ?_⟩
    rcases q3 i hi with h | h
    · exact .inl h
    · have h1 : gd = i := by simpa [RI.v, Value.ownBlock] using h
      exact .inr (h1 ▸ HGD.out)
  · have hu' : usedR s.R id = false := by simpa using hu
    have HE : Hid (freE s id = 3) := Lib.hid (if_neg hu)
    have HS : Hid (freS s id = s) := Lib.hid (if_neg hu)
    rw [hu'] at HU
    clear h hu hu'
    go_enter Tryd.func51, Tryd.ntmps51
    go_wp2_with fail
    refine HU.out.mono ?_
    rintro e w' ⟨rfl, rfl⟩
    go_wp2
    go_ret
    exact ⟨by rw [HE.out]; rfl, _, by rw [HS.out]; exact HMF.out, Stp.refl _ _⟩
end Go.Proofs.YtkcipbjikimlfaaDoor
