/- Record files: All, for whatever loop goes over it. -/
import Derived.Test.YtlckhfjkdahfpaaDoorRfK
namespace Go.Proofs.YtlckhfjkdahfpaaDoor
open Go.RowKit Go.Shelf
attribute [local go_sem] Oper.semAt_some
theorem All_F (p : Nat) (w : World) : Calls Tryd.prog 37 #[.pointer (some ⟨p, 0, none⟩)] w fun e w' => e = .returned (.func (.func 56) #[] #[.pointer (some ⟨w.heap.size, 0, none⟩)]) ∧ w'.heap[w.heap.size]? = some (.cells #[.pointer (some ⟨p, 0, none⟩)] 62) ∧ Fr [] w w' ∧ w'.heap.size = w.heap.size + 1 := by
  go_enter Tryd.func37, Tryd.ntmps37
  go_wp2
  go_ret
  exact ⟨rfl, heap_alloc_new w _, (Fr.refl _ _).alloc _, by simp⟩
set_option maxRecDepth 100000 in
set_option maxHeartbeats 1600000 in
theorem AllF1_in (n l Bn p B : Nat) (W : World) (s0 : RFS) (J : Nat → RFS → World → Prop) (Jx : World → Prop)
    (hJ : ∀ id s A, J id s A → (∃ bs, RF B bs A p s) ∧ A.cell? ⟨Bn, 0, none⟩ = some (.pointer (some ⟨p, 0, none⟩))) (h0 : J 0 s0 W)
    (hS : ∀ id s A, J id s A → id < s.R.length → s.R.getD id none = none → J (id + 1) s A)
    (hY : ∀ id s d g c A W1, J id s A → s.R[id]? = some (some d) → Fr [] A W1 → A.heap.size ≤ g → W1.ownsRow A.heap.size 5 1 (.slice (some ⟨g, 0, none⟩) d.length c) d.length (d.map B8) →
      YieldAt Fence.wide (n - 1) Tryd.prog l #[.int .i64 (id : Nat), .slice (some ⟨g, 0, none⟩) d.length c] W1 (fun e W' => (e = .returned (.bool true) ∧ ∃ s', J (id + 1) s' W') ∨ (e = .returned (.bool false) ∧ Jx W'))) :
    CallsIn Fence.wide n Tryd.prog 56 #[.func (.yield l) #[] #[], .pointer (some ⟨Bn, 0, none⟩)] W fun e W' => (∃ v, e = .returned v) ∧ ((∃ id s A, J id s A ∧ s.R.length ≤ id ∧ Fr [] A W') ∨ Jx W') := by
  have HJ := Lib.hid hJ
  have HY := Lib.hid hY
  have HS := Lib.hid hS
  have H0 := Lib.hid h0
  clear hJ hY hS h0
  refine callsIn_of_wp Tryd.func56 rfl trivial ?_ rfl
  simp only [Tryd.ntmps56, List.size_toArray, List.length_cons, List.length_nil, Nat.reduceAdd, Nat.reduceSub, Array.replicate_succ, Array.replicate_zero, List.push_toArray, List.append_toArray, List.nil_append, List.cons_append]
  gi_wp2
  gi_loopw [3, 4] (fun q _ wr => ∃ (id : Nat) (s : RFS) (A : World), q = .int .i64 id ∧ id ≤ 65536 ∧ J id s A ∧ Fr [] A wr) (fun q _ _ => 65536 - (intOf q).toNat)
  case atStart => exact ⟨0, s0, W, rfl, by omega, H0.out, Fr.refl _ _⟩
  case round =>
    obtain ⟨id, s, A, rfl, hid, hj, hfr⟩ := hrel
    obtain ⟨⟨bs, hrf⟩, hcB⟩ := HJ.out _ _ _ hj
    have cB := hfr.cell hcB (by simp)
    have HJA := Lib.hid hj
    have HFR := Lib.hid hfr
    obtain ⟨v, X, hh, -⟩ := hrf.keep hfr
    have hok := hh.ok
    obtain ⟨x0, x1, x2, x3, x4, x5⟩ := six hh.obj
    obtain ⟨a, c, rfl, -⟩ := hh.recs.sl
    have hlen := hh.len
    have hl65 := hok.len
    have HLEN := Lib.hid hlen
    have hXb : X.length ≤ 65536 := by omega
    clear hj hfr hrf hcB
    by_cases hlt : id < X.length
    · obtain ⟨g, rfl, -, -⟩ := hh.recs.pos (by omega)
      have hki : (id : Int) < (X.length : Int) := by omega
      have hk0 : (0 : Int) ≤ (id : Int) := by omega
      have qN := neq_nil8
      cases hd : s.R.getD id none with
      | none =>
        have hc : wr.cell? ⟨g, id, none⟩ = some (.slice none 0 0) := by
          rw [(hh.recs.cell hlt).1]
          have h1 : X[id].o = none := by
            have h2 := hd
            rw [← hh.opt, List.getD_eq_getElem?_getD, List.getElem?_map, List.getElem?_eq_getElem hlt] at h2
            exact h2
          have h4 : X[id].a = none := by
            cases ha : X[id].a with
            | none => rfl
            | some ad => unfold LI.o at h1; rw [ha] at h1; cases h1
          rw [hh.recs.isNil (List.getElem_mem hlt) h4]
          rfl
        have HJ1 := Lib.hid (HS.out _ _ _ HJA.out (by omega) hd)
        clear hh hok hd hlen
        gi_wp2_with fail
        refine ⟨trivial, ?_⟩
        gi_wp2_with fail
        refine ⟨fun _ h => (by cases h), ?_⟩
        gi_wp2
        go_roundw
        case rel => exact ⟨id + 1, s, A, by go_num, by omega, HJ1.out, HFR.out⟩
        case measure => simp [intOf] <;> omega
      | some d =>
        have hg : s.R[id]? = some (some d) := by
          have h2 := hd
          rw [List.getD_eq_getElem?_getD] at h2
          cases h3 : s.R[id]? with
          | none => rw [h3] at h2; cases h2
          | some o => rw [h3] at h2; exact congrArg some h2
        obtain ⟨gd, cd, -, hc, ho, -⟩ := hh.at hg
        have hdl : d.length ≤ 255 := by have := hok.dat.get hg; have := hok.hi; omega
        have HB := Lib.hid (own_bytes ho)
        have HG := Lib.hid hg
        clear hh hok hd hlen ho hg
        gi_wp2_with fail
        refine ⟨trivial, fun h => (by cases h), ?_⟩
        refine (callsIn_wide.2 (Clone_some ⟨gd, 0, none⟩ cd d wr (by omega) HB.out)).mono ?_
        rintro e w1 ⟨cv, rfl, hcv⟩
        have ho1 := hcv.got.1
        obtain ⟨g1, c1, rfl, hg1, -, -, hf1⟩ := hcv.bytes
        obtain ⟨fn, tmps, assign, body, hy, hR⟩ := HY.out id s d g1 c1 A w1 HJA.out HG.out (HFR.out.trans hf1) (Nat.le_trans HFR.out.size hg1) (own_base ho1 HFR.out.size)
        have HRD := Lib.hid hR
        clear hR hcv ho1 hg1 hf1
        gi_wp2_with fail
        refine ⟨fun h => (by cases h), ?_⟩
        refine HRD.out.mono ?_
        rintro e W2 (⟨rfl, s', hj2⟩ | ⟨rfl, hjx⟩)
        · have HJ2 := Lib.hid hj2
          clear hj2 HRD hy
          gi_wp2
          go_roundw
          case rel => exact ⟨id + 1, s', W2, by go_num, by omega, HJ2.out, Fr.refl _ _⟩
          case measure => simp [intOf] <;> omega
        · have HJX := Lib.hid hjx
          clear hjx HRD hy
          gi_wp2
          refine bodyPost_ret (results_none rfl _ _ _) rfl ?_
          exact ⟨⟨_, rfl⟩, .inr HJX.out⟩
    · have hki : ¬ (id : Int) < (X.length : Int) := by omega
      have hkn : ¬ id < X.length := hlt
      clear hh hok hlen
      gi_wp2
      go_end0
      exact ⟨⟨_, rfl⟩, .inl ⟨id, s, A, HJA.out, by have := HLEN.out; omega, HFR.out⟩⟩
end Go.Proofs.YtlckhfjkdahfpaaDoor
