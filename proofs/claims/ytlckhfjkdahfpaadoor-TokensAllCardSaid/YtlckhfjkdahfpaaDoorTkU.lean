/- Tokens: TokensPlays. -/
import Derived.Test.YtlckhfjkdahfpaaDoorTkT
import Derived.Test.YtlckhfjkdahfpaaDoorTkArgs
namespace Go.Proofs.YtlckhfjkdahfpaaDoor
open Go.RowKit Go.Maps
attribute [local go_sem ↓] Go.wp_at_zero Go.wp_at_succ
attribute [local go_sem] Oper.semAt_some
theorem TkPairG.clean {B C t q : Nat} {bs cs : List Nat} {kd vr : Nat} {N : Nms} {w0 w w' : World} {zs : List Nat} (h : TkPair B C w t q bs cs kd vr N) (hB : w0.heap.size ≤ B) (hC : w0.heap.size ≤ C) (hf : Fr [] w0 w) (hs : Stp (bs ++ cs) w zs w') : Fr [] w0 w' :=
  frNewT hf hs.1 fun i hi => by
    rcases List.mem_append.1 hi with hi | hi
    · have := (h.f.lt i hi).1; omega
    · have := (h.m.lt i hi).1; omega
set_option maxRecDepth 100000 in
theorem New_Tw (kd vr : Int) (w : World) (h : wrongB kd vr = true) : Calls Tryd.prog 10 #[.int .i64 kd, .int .i64 vr] w fun e w' => e = .returned (.tuple #[.pointer none, .int .i64 2]) ∧ w = w' := by
  have HW := Lib.hid (wrong_T kd vr w)
  rw [h] at HW
  clear h
  go_enter Tryd.func10, Tryd.ntmps10
  go_wp2_with fail
  refine HW.out.mono ?_
  rintro e w' ⟨rfl, rfl⟩
  go_wp2_with fail
  go_ret2
  exact ⟨rfl, rfl⟩
set_option maxRecDepth 100000 in
set_option maxHeartbeats 3200000 in
theorem tokensPlays_walk (x y : Int) (sa : Option Addr) (n sc : Nat) (F : Nat → OpT) (w : World) (hn2 : n ≤ 140737488351300) (hF : OpsT w sa n F) (hn : Nib w) :
    Calls Tryd.prog 6 #[.int .i64 x, .int .i64 y, .slice sa n sc] w fun e w' => e = .returned (.bool true) ∧ Fr [] w w' := by
  have HN := Lib.hid hn
  have HF := Lib.hid hF
  have HSP := Lib.hid (speaks11 w hn)
  clear hn hF
  go_enter Tryd.func6, Tryd.ntmps6
  go_wp2_with fail
  refine HSP.out.mono ?_
  rintro e w1 ⟨rfl, hf1⟩
  have HF1 := Lib.hid hf1
  clear hf1 HSP
  cases hwr : wrongB x y with
  | true =>
    have HA := Lib.hid (New_Tw x y w1 hwr)
    have HQ := Lib.hid (New_Q x y w1)
    rw [hwr] at HQ
    clear hwr
    go_wp2_with fail
    refine HA.out.mono ?_
    rintro e w' ⟨rfl, rfl⟩
    go_wp2_with fail
    refine HQ.out.mono ?_
    rintro e w' (⟨-, rfl, rfl⟩ | ⟨h, -⟩)
    · go_wp2
      go_ret
      exact ⟨rfl, HF1.out⟩
    · cases h
  | false =>
    have hin := of_decide_eq_false hwr
    obtain ⟨kd, rfl⟩ : ∃ k : Nat, x = k := ⟨x.toNat, by omega⟩
    obtain ⟨vr, rfl⟩ : ∃ k : Nat, y = k := ⟨y.toNat, by omega⟩
    have HIN : Hid ((1 ≤ kd ∧ kd ≤ 3) ∧ (vr = 1 ∨ vr = 2)) := Lib.hid (by omega)
    have HA := Lib.hid (New_T kd vr w1 HIN.out.1 HIN.out.2)
    have HQ : Hid (∀ W, _) := Lib.hid fun W => New_Q (kd : Int) (vr : Int) W
    rw [hwr] at HQ
    clear hwr hin
    go_wp2_with fail
    refine HA.out.mono ?_
    rintro e w2 ⟨t, bs, rfl, ht, hf2⟩
    have HT2 := Lib.hid ht
    have HF2 := Lib.hid (HF1.out.trans hf2)
    clear ht hf2 HA
    go_wp2_with fail
    refine (HQ.out w2).mono ?_
    rintro e w3 (⟨h, -⟩ | ⟨-, q, cs, rfl, hm, hf3⟩)
    · cases h
    rw [Int.toNat_natCast, Int.toNat_natCast] at hm
    obtain ⟨B, hB⟩ : ∃ B, B = w1.heap.size := ⟨_, rfl⟩
    obtain ⟨C, hC⟩ : ∃ C, C = w2.heap.size := ⟨_, rfl⟩
    rw [← hB] at HT2
    rw [← hC] at hm
    have HP3 : Hid (TkPair B C w3 t q bs cs kd vr []) := Lib.hid ⟨HT2.out.keep hf3, hm, fun i hi hj => by have := (HT2.out.lt i hi).2; have := (hm.lt i hj).1; omega⟩
    have HF3 := Lib.hid (HF2.out.trans hf3)
    have HBC : Hid (w.heap.size ≤ B ∧ w.heap.size ≤ C) := Lib.hid ⟨by rw [hB]; exact HF1.out.size, by rw [hC]; exact HF2.out.size⟩
    clear hm hf3 HT2 hB hC HQ
    go_wp2_with fail
    go_loopw [41] (fun i wr => ∃ (k : Nat) (bs cs : List Nat) (N : Nms), k ≤ n ∧ i = .int .i64 k ∧ TkPair B C wr t q bs cs kd vr N ∧ Fr [] w wr) (fun i _ => n - (intOf i).toNat)
    case atStart => exact ⟨0, bs, cs, _, by omega, rfl, HP3.out, HF3.out⟩
    case round =>
      obtain ⟨k, bs, cs, N, hk, rfl, hpr, hf⟩ := hrel
      have HP := Lib.hid hpr
      have HFR := Lib.hid hf
      clear hpr hf HP3 HF3
      by_cases hlt : k < n
      · obtain ⟨sb, so, rfl, c0, c1, c2⟩ := (HF.out.keep HFR.out).cell k hlt
        have HOL := Lib.hid (HF.out.len k hlt)
        obtain ⟨okd, hokd⟩ : ∃ z, z = (F k).kd := ⟨_, rfl⟩
        obtain ⟨oid, hoid⟩ : ∃ z, z = (F k).id := ⟨_, rfl⟩
        obtain ⟨od, hod⟩ : ∃ z, z = (F k).d := ⟨_, rfl⟩
        rw [← hod] at HOL
        rw [← hokd] at c0
        rw [← hoid] at c1
        rw [← hod] at c2
        obtain ⟨S, hS⟩ : ∃ S, S = ByteArray.mk od.toArray := ⟨_, rfl⟩
        rw [← hS] at c2
        obtain ⟨wbx, hwbx⟩ : ∃ wb, wb = wr.alloc (.cells #[.int .i64 okd, .int .i64 oid, .string S] 47) := ⟨_, rfl⟩
        have hbb : wbx.heap[wr.heap.size]? = some (.cells #[.int .i64 okd, .int .i64 oid, .string S] 47) := by rw [hwbx]; exact heap_alloc_new wr _
        have hfb : Fr [] wr wbx := by rw [hwbx]; exact (Fr.refl _ _).alloc _
        have HFX := Lib.hid hfb
        obtain ⟨b0, b1, b2⟩ := trioT hbb
        have HWBX := Lib.hid hwbx
        have HST : Hid (∀ W, Fr [] wbx W → Calls Tryd.prog 20 #[.pointer (some ⟨t, 0, none⟩), .pointer (some ⟨q, 0, none⟩), .agg #[.int .i64 okd, .int .i64 oid, .string S]] W fun e w' => e = .returned (.bool true) ∧ TkPairG B C t q bs cs kd vr W w') := Lib.hid fun W hW => by
          rw [hS]
          exact step11 B C bs cs W t q kd vr N okd oid od (HP.out.keep (HFX.out.trans hW)) HOL.out (by have := HIN.out; omega) (by have := HIN.out; omega) (nib_keep HN.out (HFR.out.trans (HFX.out.trans hW)))
        clear hokd hoid hod hwbx hbb hfb hS
        have hki : (k : Int) < (n : Int) := by omega
        have hk0 : (0 : Int) ≤ (k : Int) := by omega
        have ek : IntKind.i64.wrap ((k : Int) + 1) = (k : Int) + 1 := IntWalk.i64_in _ (by omega)
        go_wp2_with fail
        rw [← HWBX.out]
        clear HWBX c0 c1 c2
        refine (HST.out wbx (Fr.refl _ _)).mono ?_
        rintro e w4 ⟨rfl, bs4, cs4, N4, hp4, hf4⟩
        have HP4 := Lib.hid hp4
        have HF4 := Lib.hid (TkPairG.clean (HP.out.keep HFX.out) HBC.out.1 HBC.out.2 (HFR.out.trans HFX.out) hf4)
        clear hp4 hf4 b0 b1 b2 HST
        have HL1 := Lib.hid (Len_T B bs4 w4 t kd vr N4 HP4.out.f)
        have HL2 := Lib.hid (Len_Q C cs4 w4 q kd vr N4 HP4.out.m)
        obtain ⟨L, hL⟩ : ∃ L, L = lenN N4 := ⟨_, rfl⟩
        rw [← hL] at HL1 HL2
        clear hL
        have hll : ((L : Int) != (L : Int)) = false := by simp
        go_wp2_with fail
        refine HL1.out.mono ?_
        rintro e w' ⟨rfl, rfl⟩
        go_wp2_with fail
        refine HL2.out.mono ?_
        rintro e w' ⟨rfl, rfl⟩
        go_wp2
        go_roundw
        case rel => exact ⟨k + 1, bs4, cs4, N4, by omega, by go_num, HP4.out, HF4.out⟩
        case measure => simp [intOf] <;> omega
      · have hki : ¬ (k : Int) < (n : Int) := by omega
        go_wp2_with fail
        refine (Bytes_T B bs wr t kd vr N HP.out.f (nib_keep HN.out HFR.out)).mono ?_
        rintro e w5 ⟨v, rfl, hv⟩
        obtain ⟨g5, c5, rfl, -, -, hb5, hf5⟩ := hv.bytes
        have HB5 := Lib.hid hb5
        have HM5 := Lib.hid (HP.out.m.keep hf5)
        have HF5 := Lib.hid (HFR.out.trans hf5)
        clear hv hb5 hf5
        go_wp2_with fail
        refine (Bytes_Q C cs w5 q kd vr N HM5.out (by have := HIN.out; omega) (by have := HIN.out; omega)).mono ?_
        rintro e w6 ⟨v, rfl, hv⟩
        obtain ⟨g6, c6, rfl, -, -, hb6, hf6⟩ := hv.bytes
        have HF6 := Lib.hid (HF5.out.trans hf6)
        have HSM := Lib.hid (same11 (some ⟨g5, 0, none⟩) (some ⟨g6, 0, none⟩) c5 c6 _ _ w6 (fun h => by cases h) (fun h => by cases h) (HB5.out.keep hf6) hb6)
        rw [beq_self_eq_true] at HSM
        clear hv hb6 hf6
        go_wp2_with fail
        refine HSM.out.mono ?_
        rintro e w' ⟨rfl, rfl⟩
        go_wp2
        go_ret
        exact ⟨rfl, HF6.out⟩
end Go.Proofs.YtlckhfjkdahfpaaDoor
