/- Blocks: BlocksNames, BlocksFull. -/
import Derived.Test.YtkcipbjikimlfaaBkK
import Derived.Test.YtkcipbjikimlfaaAndM
namespace Go.Proofs.Ytkcipbjikimlfaa
open Go.RowKit
attribute [local go_sem ↓] Go.wp_at_zero Go.wp_at_succ
attribute [local go_sem] Oper.semAt_some
theorem blocksNames_walk (w : World) : Calls Try.prog 3 #[] w fun e w' => e = .returned (.bool true) ∧ Fr [] w w' := by
  go_enter Try.func3, Try.ntmps3
  go_wp2_with fail
  refine (speaks10 w).mono ?_
  rintro e w' ⟨rfl, hf⟩
  have HF := Lib.hid hf
  clear hf
  go_wp2
  go_ret
  exact ⟨rfl, HF.out⟩
/-- so many records in use, all zeros -/
def fullR (n : Nat) : Recs := List.replicate n (some (zs 31))
theorem fullR_low (n : Nat) : lowest (fullR n) = n := lowest_eq (fun i hi => ⟨zs 31, by unfold fullR; rw [List.getElem?_replicate, if_pos hi]⟩) (by unfold fullR; rw [List.getD_eq_getElem?_getD, List.getElem?_eq_none (by simp)]; rfl)
theorem fullR_put (n : Nat) : putR (fullR n) n (zs 31) = fullR (n + 1) := by
  refine recs_ext (by rw [putR_length]; unfold fullR; simp) fun i => ?_
  rw [putR_get]
  unfold fullR
  simp only [List.getD_eq_getElem?_getD, List.getElem?_replicate]
  by_cases h : i = n
  · subst h; simp
  · rw [if_neg h]
    by_cases h2 : i < n
    · rw [if_pos h2, if_pos (by omega)]
    · rw [if_neg h2, if_neg (by omega)]
theorem fullR_live (n : Nat) : liveN (fullR n) = n := by
  induction n with
  | zero => rfl
  | succ n ih =>
    rw [← fullR_put]
    have h := liveN_put (fullR n) n (zs 31)
    rw [ih, if_neg (by unfold fullR; rw [List.getD_eq_getElem?_getD, List.getElem?_eq_none (by simp)]; simp)] at h
    omega
theorem fullR_id (n : Nat) : idAt (fullR n) 0 = n := by
  show nextFree (fullR n) 0 = n
  unfold nextFree
  rw [List.drop_zero, fullR_low]
  omega
set_option maxRecDepth 100000 in
set_option maxHeartbeats 6400000 in
theorem blocksFull_walk (x y : Int) (w : World) : Calls Try.prog 4 #[.int .i64 x, .int .i64 y] w fun e w' => e = .returned (.bool true) ∧ Fr [] w w' := by
  obtain ⟨left, hl7, hand⟩ := mask7 x
  obtain ⟨n, hn255, hand2⟩ := mask255 y
  go_enter Try.func4, Try.ntmps4
  go_wp2_with fail
  refine (speaks10 w).mono ?_
  rintro e w0 ⟨rfl, hf0⟩
  have HF0 := Lib.hid hf0
  clear hf0
  go_wp2_with fail
  refine (New_ok 9 1 32 w0 (by decide) (by decide) (by decide) (by decide)).mono ?_
  rintro e w1 ⟨rfl, hr, hf⟩
  obtain ⟨p, hp⟩ : ∃ p, p = w0.heap.size := ⟨_, rfl⟩
  obtain ⟨bs, hbs⟩ : ∃ bs, bs = [w0.heap.size] := ⟨_, rfl⟩
  have hr1 : RF w0.heap.size bs w1 p sq0 := by rw [hbs, hp]; exact hr
  rw [← hp]
  have HR1 := Lib.hid hr1
  have HF1 := Lib.hid hf
  clear hr hf hr1 hp hbs
  obtain ⟨M, hM⟩ : ∃ M, M = 65536 - left := ⟨_, rfl⟩
  have qM : IntKind.i64.wrap (65536 - (left : Int)) = (M : Int) := by rw [IntWalk.i64_in _ (by omega)]; omega
  have hM1 : M ≤ 65536 := by omega
  have HM : Hid (M + left = 65536) := Lib.hid (by omega)
  clear hM
  go_wp2_with fail
  go_loopw [7] (fun q wr => ∃ (i : Nat) (bs' : List Nat) (t : RFS), i ≤ M ∧ q = .int .i64 i ∧ RF w0.heap.size bs' wr p t ∧ Like sq0 t (fullR i) ∧ Stp bs w1 bs' wr) (fun q _ => M - (intOf q).toNat)
  case atStart => exact ⟨0, bs, sq0, by omega, rfl, HR1.out, ⟨rfl, rfl, rfl, rfl⟩, Stp.refl _ _⟩
  case round =>
    obtain ⟨i, bs2, t, hi, rfl, hr, hlk, hst⟩ := hrel
    have HR := Lib.hid hr
    have HLK := Lib.hid hlk
    have HST := Lib.hid hst
    clear hr hlk hst
    by_cases hlt : i < M
    · have hii : (i : Int) < (M : Int) := by omega
      have HA := Lib.hid (Alloc_F w0.heap.size bs2 wr p t HR.out)
      have ha : alI t = i ∧ alE t = 0 ∧ Like sq0 (alS t) (fullR (i + 1)) := by
        have h := HLK.out.R
        have hlo : lowest t.R = i := by rw [h, fullR_low]
        have hng : ¬ 65536 ≤ lowest t.R := by omega
        refine ⟨by unfold alI; rw [if_neg hng, hlo], by unfold alE; rw [if_neg hng], ?_⟩
        unfold alS
        rw [if_neg hng, hlo]
        refine ⟨HLK.out.kd, HLK.out.vr, HLK.out.sz, ?_⟩
        show putR t.R i (zs (t.sz - 1)) = _
        rw [show t.sz = 32 from HLK.out.sz, h]
        exact fullR_put i
      rw [ha.1, ha.2.1] at HA
      have HL2 := Lib.hid ha.2.2
      clear ha
      have e1 : IntKind.i64.wrap ((i : Int) + 1) = (i : Int) + 1 := IntWalk.i64_in _ (by omega)
      go_wp2_with fail
      refine HA.out.mono ?_
      rintro e w2 ⟨rfl, bs3, h3, s3⟩
      have HR3 := Lib.hid h3
      have HS3 := Lib.hid s3
      clear h3 s3 HA
      go_wp2_with fail
      go_roundw
      case rel => exact ⟨i + 1, bs3, _, by omega, by go_num, HR3.out, HL2.out, HST.out.trans HS3.out⟩
      case measure => simp [intOf] <;> omega
    · obtain rfl : i = M := by omega
      have hii : ¬ (i : Int) < (i : Int) := by omega
      have hmk := make8 n (by omega) wr
      go_wp2_with fail
      generalize hW : World.alloc wr _ = W
      have hfW : Fr [] wr W := by rw [← hW]; exact (Fr.refl _ _).alloc _
      have hbW : Bytes W (some ⟨wr.heap.size, 0, none⟩) (zs n) := by
        have h := own_mk wr n (by omega)
        rw [hW] at h
        exact own_bytes (l := zs n) (g := wr.heap.size) (cap := n) (B := wr.heap.size) (e := 5) (w := W) (by rw [zs_length]; exact h)
      have HS := Lib.hid (Store_F w0.heap.size bs2 W p t (some ⟨wr.heap.size, 0, none⟩) n (zs n) (HR.out.keep hfW) (by rw [zs_length]; omega) (by rw [zs_length]; exact Nat.le_refl _) (fun h => by cases h) hbW (fun ad e => by cases e; exact fun hm => absurd (HR.out.lt _ hm).2 (Nat.lt_irrefl _)))
      rw [zs_length] at HS
      have HFW := Lib.hid hfW
      obtain ⟨q, hq⟩ : ∃ q, q = nBlk n := ⟨_, rfl⟩
      have hq1 : q = max 1 ((n + 24) / 25) := hq
      obtain ⟨Q, hQ⟩ : ∃ Q, Q = (n + 24) / 25 := ⟨_, rfl⟩
      have q1 : IntKind.i64.wrap ((n : Int) + 24) = (n : Int) + 24 := IntWalk.i64_in _ (by omega)
      have q3 : ((n : Int) + 24).tdiv 25 = (Q : Int) := by rw [Int.tdiv_eq_ediv_of_nonneg (by omega)]; omega
      have q4 : IntKind.i64.wrap (Q : Int) = (Q : Int) := IntWalk.i64_in _ (by omega)
      have HQN : Hid ((Q ≤ 1 → q = 1) ∧ (¬ Q ≤ 1 → q = Q)) := Lib.hid (by rw [hq1, ← hQ]; omega)
      have hqs : q ≤ 20 := by omega
      have h32 : t.sz = 32 := HLK.out.sz
      have hlv : liveN t.R = i := by rw [HLK.out.R, fullR_live]
      have HE : Hid (stE t n = if left < q then 5 else 0) := Lib.hid (by
        unfold stE
        rw [if_neg (by omega), hlv, hq, show 65536 - i = left by have := HM.out; omega])
      have HLV := Lib.hid hlv
      have HQE := Lib.hid hq
      clear hW hfW hbW hmk hQ hq1 hq h32 hlv
      by_cases hf : left < q
      · have hfi : (left : Int) < (q : Int) := by omega
        have hE := HE.out
        rw [if_pos hf] at hE
        have hI : stI t n = 0 := by unfold stI; rw [hE]; rfl
        have hS : stS t (zs n) = fullR i := by unfold stS; rw [zs_length, hE, HLK.out.R]; rfl
        rw [hE, hI, hS] at HS
        clear hE hI hS hf
        refine HS.out.mono ?_
        rintro e w3 ⟨rfl, bs3, t3, h3, l3, s3⟩
        have HR3 := Lib.hid h3
        have HL3 := Lib.hid l3
        have HS3 := Lib.hid s3
        have HC := Lib.hid (Count_F w0.heap.size bs3 w3 p t3 h3)
        have HV := Lib.hid (Live_F w0.heap.size bs3 w3 p t3 h3)
        rw [l3.R, fullR_live] at HV
        rw [l3.R, show (fullR i).length = i by unfold fullR; simp] at HC
        clear HS h3 l3 s3
        go_upto_region 15 with fail
        go_cut [12] (fun v wx => v = .int .i64 q ∧ wx = w3)
        case first =>
          by_cases hq : Q ≤ 1
          · have hqi : (Q : Int) ≤ 1 := by omega
            go_wp2_with fail
            go_meet
            exact ⟨by rw [HQN.out.1 hq]; rfl, rfl⟩
          · have hqi : ¬ (Q : Int) ≤ 1 := by omega
            have hqn : ¬ Q ≤ 1 := hq
            go_wp2_with fail
            go_meet
            exact ⟨by rw [HQN.out.2 hq], rfl⟩
        case rest =>
          obtain ⟨rfl, rfl⟩ := hcut
          go_wp2_with fail
          refine HC.out.mono ?_
          rintro e w' ⟨rfl, rfl⟩
          go_wp2_with fail
          refine HV.out.mono ?_
          rintro e w' ⟨rfl, rfl⟩
          go_wp2_with fail
          go_ret
          refine ⟨rfl, ?_⟩
          have h1 := HST.out.1.next ((HFW.out.mono (by simp) : Fr bs2 wr W).trans (HS3.out.1)) (fun j hj hlt => (HST.out.2 j hj).resolve_right (by omega))
          exact HF0.out.trans (HF1.out.next h1 (fun j hj hlt => by have := (HR1.out.lt j hj).1; omega))
      · have hfi : ¬ (left : Int) < (q : Int) := by omega
        have hE := HE.out
        rw [if_neg hf] at hE
        have hI : stI t n = i := by unfold stI; rw [if_pos hE, HLK.out.R, fullR_id]
        have hS : stS t (zs n) = stR (fullR i) (zs n) := by unfold stS; rw [zs_length, if_pos hE, HLK.out.R]
        rw [hE, hI, hS] at HS
        obtain ⟨z, hz⟩ : ∃ z, z = i + q := ⟨_, rfl⟩
        have q5 : IntKind.i64.wrap ((i : Int) + (q : Int)) = (z : Int) := by rw [IntWalk.i64_in _ (by omega)]; omega
        have HZ := Lib.hid hz
        clear hE hI hS hf hz
        refine HS.out.mono ?_
        rintro e w3 ⟨rfl, bs3, t3, h3, l3, s3⟩
        have HR3 := Lib.hid h3
        have HL3 := Lib.hid l3
        have HS3 := Lib.hid s3
        have HV := Lib.hid (Live_F w0.heap.size bs3 w3 p t3 h3)
        rw [l3.R, liveN_stR, fullR_live, zs_length, ← HQE.out, ← HZ.out] at HV
        clear HS h3 l3 s3
        go_upto_region 15 with fail
        go_cut [12] (fun v wx => v = .int .i64 q ∧ wx = w3)
        case first =>
          by_cases hq : Q ≤ 1
          · have hqi : (Q : Int) ≤ 1 := by omega
            go_wp2_with fail
            go_meet
            exact ⟨by rw [HQN.out.1 hq]; rfl, rfl⟩
          · have hqi : ¬ (Q : Int) ≤ 1 := by omega
            have hqn : ¬ Q ≤ 1 := hq
            go_wp2_with fail
            go_meet
            exact ⟨by rw [HQN.out.2 hq], rfl⟩
        case rest =>
          obtain ⟨rfl, rfl⟩ := hcut
          go_wp2_with fail
          refine HV.out.mono ?_
          rintro e w' ⟨rfl, rfl⟩
          go_wp2_with fail
          go_ret
          refine ⟨rfl, ?_⟩
          have h1 := HST.out.1.next ((HFW.out.mono (by simp) : Fr bs2 wr W).trans (HS3.out.1)) (fun j hj hlt => (HST.out.2 j hj).resolve_right (by omega))
          exact HF0.out.trans (HF1.out.next h1 (fun j hj hlt => by have := (HR1.out.lt j hj).1; omega))
end Go.Proofs.Ytkcipbjikimlfaa
