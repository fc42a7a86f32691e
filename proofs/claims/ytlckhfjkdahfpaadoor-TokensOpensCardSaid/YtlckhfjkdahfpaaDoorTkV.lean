/- Tokens: TokensOpens. -/
import Derived.Test.YtlckhfjkdahfpaaDoorTkU
namespace Go.Proofs.YtlckhfjkdahfpaaDoor
open Go.RowKit Go.Maps
attribute [local go_sem ↓] Go.wp_at_zero Go.wp_at_succ
attribute [local go_sem] Oper.semAt_some
set_option maxRecDepth 100000 in
set_option maxHeartbeats 6400000 in
theorem tokensOpens_walk (a : Option Addr) (c : Nat) (l : List UInt8) (x y : Int) (sa : Option Addr) (n sc : Nat) (F : Nat → OpT) (w : World) (hl : l.length ≤ 140737488351300) (hc : l.length ≤ c) (hno : a = none → c = 0) (hb : Bytes w a l) (hn2 : n ≤ 140737488351300) (hF : OpsT w sa n F) (hn : Nib w) :
    Calls Tryd.prog 7 #[.agg #[.slice a l.length c, .int .i64 x, .int .i64 y], .slice sa n sc] w fun e w' => e = .returned (.bool true) ∧ Fr [] w w' := by
  have HN := Lib.hid hn
  have HF := Lib.hid hF
  have HB := Lib.hid hb
  have HC := Lib.hid hc
  have HNO := Lib.hid hno
  clear hn hF hb hc hno
  obtain ⟨wb, hwb⟩ : ∃ wb, wb = w.alloc (.cells #[.slice a l.length c, .int .i64 x, .int .i64 y] 52) := ⟨_, rfl⟩
  have hbx : wb.heap[w.heap.size]? = some (.cells #[.slice a l.length c, .int .i64 x, .int .i64 y] 52) := by rw [hwb]; exact heap_alloc_new w _
  have hfb : Fr [] w wb := by rw [hwb]; exact (Fr.refl _ _).alloc _
  obtain ⟨X, hX⟩ : ∃ X, X = w.heap.size := ⟨_, rfl⟩
  rw [← hX] at hbx
  have HBX := Lib.hid hbx
  have HX := Lib.hid hX
  have HSP := Lib.hid (speaks11 wb (nib_keep HN.out hfb))
  have HWB := Lib.hid hwb
  have HFB := Lib.hid hfb
  clear hwb hbx hfb hX
  go_enter Tryd.func7, Tryd.ntmps7
  go_upto_region 1 with fail
  rw [← HWB.out, ← HX.out]
  clear HWB
  go_wp2_with fail
  refine HSP.out.mono ?_
  rintro e w1 ⟨rfl, hf1⟩
  obtain ⟨b0, b1, b2⟩ := trioT (hf1.obj HBX.out (by simp))
  have hfe : Fr [] w1 (w1.alloc (.cells #[] 5)) := (Fr.refl _ _).alloc _
  have HF1 := Lib.hid (HFB.out.trans hf1)
  have HBX1 := Lib.hid (hf1.obj HBX.out (by simp))
  have HBE : Hid (Bytes (w1.alloc (.cells #[] 5)) a l) := Lib.hid (HB.out.keep (HF1.out.trans hfe))
  have e0 := hfe.cell b0 (by simp)
  have e1 := hfe.cell b1 (by simp)
  have e2 := hfe.cell b2 (by simp)
  have HXL := Lib.hid (Array.getElem?_eq_some_iff.1 HBX1.out).1
  clear hf1 hfe HSP b0 b1 b2
  go_wp2_with (at_builtin; refine wpList_apB _ rfl _ _ 37 rfl w1.heap.size 5 Tryd.underlying37 info8 (.slice (some ⟨w1.heap.size, 0, none⟩) 0 0) [] rfl (own_empty w1 5) a _ c l rfl rfl HBE.out HNO.out (by simp; omega) (by simp) ?_; intro v' w2 happ; have f1 := happ.fr.cell e1 (by simp [Value.ownBlock]; have := HXL.out; omega); have f2 := happ.fr.cell e2 (by simp [Value.ownBlock]; have := HXL.out; omega); have HA := Lib.hid happ; clear happ e0 e1 e2)
  have hfr2 : Fresh w1.heap.size w1 w2 v' l := by
    have ha := HA.out
    refine Fresh.mk ?_ (fun e => by have := (ha.nil.1 e).1; cases this) (((Fr.refl _ _).alloc _).next ha.fr (by intro i hi hlt; simp [Value.ownBlock] at hi; omega))
    have h := ha.own
    simpa only [List.nil_append] using h
  obtain ⟨g, cap, rfl, hg, hg2, hb2, hf2⟩ := hfr2.bytes
  have HCAP := Lib.hid hfr2.cap
  have HO2 := Lib.hid (OwnB.of hfr2.got.1)
  have HB2 := Lib.hid hb2
  have HF2 := Lib.hid (HF1.out.trans hf2)
  have HBX2 := Lib.hid (hf2.obj HBX1.out (by simp))
  have HG : Hid (w.heap.size ≤ g ∧ X < g ∧ g < w2.heap.size) := Lib.hid ⟨Nat.le_trans HF1.out.size hg, by have := (Array.getElem?_eq_some_iff.1 HBX1.out).1; omega, hg2⟩
  have HW1 := Lib.hid HF1.out.size
  obtain ⟨B1, hB1⟩ : ∃ B1, B1 = w1.heap.size := ⟨_, rfl⟩
  rw [← hB1] at HO2 HW1
  clear hfr2 hg hg2 hb2 hf2 HA HBE hB1
  have HOP := Lib.hid (Open_T (some ⟨g, 0, none⟩) cap l x y w2 hl HCAP.out HB2.out (nib_keep HN.out HF2.out))
  refine HOP.out.mono ?_
  rintro e w3 (⟨E, hE, rfl, hf3⟩ | ⟨N, t, bs, hE, hwr, rfl, ht, hf3⟩)
  · have HE := Lib.hid hE
    have HF3 := Lib.hid (HF2.out.trans hf3)
    have HF23 := Lib.hid hf3
    have HB3 := Lib.hid (HB2.out.keep hf3)
    have HO3 := Lib.hid (HO2.out.keep hf3 (by simp))
    have HBX3 := Lib.hid (hf3.obj HBX2.out (by simp))
    have hEi : (E == E) = true := beq_self_eq_true _
    have hEn : (E != E) = false := by simp
    clear hf3 hE f1 f2 HOP
    obtain ⟨b0, b1, b2⟩ := trioT HBX3.out
    go_wp2_with fail
    refine (Open_Q a c l x y w3 hl HC.out (HB.out.keep HF3.out)).mono ?_
    rintro e w4 (⟨E', hE', rfl, hf4⟩ | ⟨N, q, cs, hE', -, -, -, -⟩)
    · obtain rfl : E' = E := by rw [HE.out] at hE'; cases hE'; rfl
      have HF4 := Lib.hid (HF3.out.trans hf4)
      have HO4 := Lib.hid (HO3.out.keep hf4 (by simp))
      have HSM := Lib.hid (same11 (some ⟨g, 0, none⟩) a cap c l l w4 (fun h => by cases h) HNO.out (HB3.out.keep hf4) (HB.out.keep HF4.out))
      rw [beq_self_eq_true] at HSM
      have HBX4 := Lib.hid (hf4.obj HBX3.out (by simp))
      clear hf4 hE' b0 b1 b2
      obtain ⟨b0, b1, b2⟩ := trioT HBX4.out
      go_wp2_with fail
      refine HSM.out.mono ?_
      rintro e w' ⟨rfl, rfl⟩
      obtain ⟨m, hm⟩ : ∃ m, m = l.length := ⟨_, rfl⟩
      rw [← hm] at hl HO4
      have HM := Lib.hid hm
      clear b0 b1 b2
      go_upto_region 8 with fail
      rw [← HM.out]
      clear hm
      go_wp2_with fail
      go_loopw [57] (fun i wx => ∃ k2 : Nat, k2 ≤ m ∧ i = .int .i64 k2 ∧ Fr [g] w4 wx ∧ OwnB wx B1 (.slice (some ⟨g, 0, none⟩) m cap) m) (fun i _ => m - (intOf i).toNat)
      case atStart => exact ⟨0, by omega, rfl, Fr.refl _ _, HO4.out⟩
      case round =>
        obtain ⟨k2, hk2, rfl, hf5, ho5⟩ := hrel
        have HF5 := Lib.hid hf5
        have HO5 := Lib.hid ho5
        clear hf5 ho5
        by_cases hlt2 : k2 < m
        · obtain ⟨⟨y, hy⟩, hz⟩ := HO5.out.cell hlt2
          have hki2 : (k2 : Int) < (m : Int) := by omega
          have hk02 : (0 : Int) ≤ (k2 : Int) := by omega
          have e2 : IntKind.i64.wrap ((k2 : Int) + 1) = (k2 : Int) + 1 := IntWalk.i64_in _ (by omega)
          go_wp2_with fail
          go_roundw
          case rel => exact ⟨k2 + 1, by omega, by go_num, HF5.out.setCell (by simp) _, HO5.out.setN k2 238 (by decide)⟩
          case measure => simp [intOf] <;> omega
        · have hki2 : ¬ (k2 : Int) < (m : Int) := by omega
          have HF6 : Hid (Fr [] w wr) := Lib.hid (frNewT HF4.out HF5.out fun i hi => by
            simp at hi; subst hi; exact HG.out.1)
          go_wp2_with fail
          go_ret
          exact ⟨rfl, HF6.out⟩
    · rw [HE.out] at hE'
      cases hE'
  · have hin := of_decide_eq_false hwr
    obtain ⟨kd, hkd⟩ : ∃ k : Nat, k = x.toNat := ⟨_, rfl⟩
    obtain ⟨vr, hvr⟩ : ∃ k : Nat, k = y.toNat := ⟨_, rfl⟩
    rw [← hkd, ← hvr] at ht
    have HIN : Hid (kd ≤ 255 ∧ vr ≤ 255) := Lib.hid (by omega)
    have HKV := Lib.hid (show kd = x.toNat ∧ vr = y.toNat from ⟨hkd, hvr⟩)
    have HE := Lib.hid hE
    have HT3 := Lib.hid ht
    have HF3 := Lib.hid (HF2.out.trans hf3)
    have HB3 := Lib.hid (HB2.out.keep hf3)
    have HO3 := Lib.hid (HO2.out.keep hf3 (by simp))
    have HBX3 := Lib.hid (hf3.obj HBX2.out (by simp))
    clear hf3 hE f1 f2 HOP hwr hin hkd hvr ht
    obtain ⟨b0, b1, b2⟩ := trioT HBX3.out
    go_wp2_with fail
    refine (Open_Q a c l x y w3 hl HC.out (HB.out.keep HF3.out)).mono ?_
    rintro e w4 (⟨E', hE', rfl, hf4⟩ | ⟨N', q, cs, hE', -, rfl, hm, hf4⟩)
    · rw [HE.out] at hE'
      cases hE'
    · obtain rfl : N = N' := by rw [HE.out] at hE'; cases hE'; rfl
      rw [← HKV.out.1, ← HKV.out.2] at hm
      obtain ⟨B, hB⟩ : ∃ B, B = w2.heap.size := ⟨_, rfl⟩
      obtain ⟨C, hC⟩ : ∃ C, C = w3.heap.size := ⟨_, rfl⟩
      rw [← hB] at HT3
      rw [← hC] at hm
      have HP4 : Hid (TkPair B C w4 t q bs cs kd vr N) := Lib.hid ⟨HT3.out.keep hf4, hm, fun i hi hj => by have := (HT3.out.lt i hi).2; have := (hm.lt i hj).1; omega⟩
      have HF4 := Lib.hid (HF3.out.trans hf4)
      have HBC : Hid (w.heap.size ≤ B ∧ w.heap.size ≤ C ∧ g < B ∧ g < C) := Lib.hid ⟨by rw [hB]; exact HF2.out.size, by rw [hC]; exact HF3.out.size, by rw [hB]; exact HG.out.2.2, by rw [hC]; have := HG.out.2.2; have := (HT3.out.lt t (by obtain ⟨_, _, _, _, _, _, _, _, rfl⟩ := HT3.out; exact tbB_t ..)); have := hB; omega⟩
      have HO4 := Lib.hid (HO3.out.keep hf4 (by simp))
      have HSM := Lib.hid (same11 (some ⟨g, 0, none⟩) a cap c l l w4 (fun h => by cases h) HNO.out (HB3.out.keep hf4) (HB.out.keep HF4.out))
      rw [beq_self_eq_true] at HSM
      have HBX4 := Lib.hid (hf4.obj HBX3.out (by simp))
      clear hf4 hE' b0 b1 b2 hm hB hC
      obtain ⟨b0, b1, b2⟩ := trioT HBX4.out
      go_wp2_with fail
      refine HSM.out.mono ?_
      rintro e w' ⟨rfl, rfl⟩
      obtain ⟨m, hm⟩ : ∃ m, m = l.length := ⟨_, rfl⟩
      rw [← hm] at hl HO4
      have HM := Lib.hid hm
      clear b0 b1 b2
      go_upto_region 8 with fail
      rw [← HM.out]
      clear hm
      go_wp2_with fail
      go_loopw [57] (fun i wx => ∃ k2 : Nat, k2 ≤ m ∧ i = .int .i64 k2 ∧ Fr [g] w4 wx ∧ OwnB wx B1 (.slice (some ⟨g, 0, none⟩) m cap) m) (fun i _ => m - (intOf i).toNat)
      case atStart => exact ⟨0, by omega, rfl, Fr.refl _ _, HO4.out⟩
      case round =>
        obtain ⟨k2, hk2, rfl, hf5, ho5⟩ := hrel
        have HF5 := Lib.hid hf5
        have HO5 := Lib.hid ho5
        clear hf5 ho5
        by_cases hlt2 : k2 < m
        · obtain ⟨⟨y, hy⟩, hz⟩ := HO5.out.cell hlt2
          have hki2 : (k2 : Int) < (m : Int) := by omega
          have hk02 : (0 : Int) ≤ (k2 : Int) := by omega
          have e2 : IntKind.i64.wrap ((k2 : Int) + 1) = (k2 : Int) + 1 := IntWalk.i64_in _ (by omega)
          go_wp2_with fail
          go_roundw
          case rel => exact ⟨k2 + 1, by omega, by go_num, HF5.out.setCell (by simp) _, HO5.out.setN k2 238 (by decide)⟩
          case measure => simp [intOf] <;> omega
        · have hki2 : ¬ (k2 : Int) < (m : Int) := by omega
          have HF6 : Hid (Fr [] w wr) := Lib.hid (frNewT HF4.out HF5.out fun i hi => by
            simp at hi; subst hi; exact HG.out.1)
          have HP6 : Hid (TkPair B C wr t q bs cs kd vr N) := Lib.hid ⟨HP4.out.f.fr HF5.out (fun i hi hm => by simp at hm; subst hm; have := (HP4.out.f.lt _ hi).1; have := HBC.out; omega), HP4.out.m.fr HF5.out (fun i hi hm => by simp at hm; subst hm; have := (HP4.out.m.lt _ hi).1; have := HBC.out; omega), HP4.out.ap⟩
          clear hk2 HF5 HO5
          go_wp2_with fail
          go_loopw [68] (fun i wy => ∃ (k : Nat) (bs cs : List Nat) (N : Nms), k ≤ n ∧ i = .int .i64 k ∧ TkPair B C wy t q bs cs kd vr N ∧ Fr [] w wy) (fun i _ => n - (intOf i).toNat)
          case atStart => exact ⟨0, bs, cs, _, by omega, rfl, HP6.out, HF6.out⟩
          case round =>
            obtain ⟨k, bs, cs, N, hk, rfl, hpr, hf⟩ := hrel
            have HP := Lib.hid hpr
            have HFR := Lib.hid hf
            clear hpr hf HP6 HF6 HP4 HE
            by_cases hlt : k < n
            · obtain ⟨sb, so, rfl, c0, c1, c2⟩ := (HF.out.keep HFR.out).cell k hlt
              have HOL := Lib.hid (HF.out.len k hlt)
              obtain ⟨okd, hokd⟩ : ∃ z, z = (F k).kd := ⟨_, rfl⟩
              obtain ⟨oid, hoid⟩ : ∃ z, z = (F k).id := ⟨_, rfl⟩
              obtain ⟨od, hod⟩ : ∃ z, z = (F k).d := ⟨_, rfl⟩
              rw [← hod] at HOL
              rw [← hokd] at c0
              rw [← hoid] at c1
              rw [← hod] at c2
              obtain ⟨S, hS⟩ : ∃ S, S = ByteArray.mk od.toArray := ⟨_, rfl⟩
              rw [← hS] at c2
              obtain ⟨wbx, hwbx⟩ : ∃ wb, wb = wr.alloc (.cells #[.int .i64 okd, .int .i64 oid, .string S] 47) := ⟨_, rfl⟩
              have hbb : wbx.heap[wr.heap.size]? = some (.cells #[.int .i64 okd, .int .i64 oid, .string S] 47) := by rw [hwbx]; exact heap_alloc_new wr _
              have hfb : Fr [] wr wbx := by rw [hwbx]; exact (Fr.refl _ _).alloc _
              have HFX := Lib.hid hfb
              obtain ⟨b0, b1, b2⟩ := trioT hbb
              have HWBX := Lib.hid hwbx
              have HST : Hid (∀ W, Fr [] wbx W → Calls Tryd.prog 20 #[.pointer (some ⟨t, 0, none⟩), .pointer (some ⟨q, 0, none⟩), .agg #[.int .i64 okd, .int .i64 oid, .string S]] W fun e w' => e = .returned (.bool true) ∧ TkPairG B C t q bs cs kd vr W w') := Lib.hid fun W hW => by
                rw [hS]
                exact step11 B C bs cs W t q kd vr N okd oid od (HP.out.keep (HFX.out.trans hW)) HOL.out HIN.out.1 HIN.out.2 (nib_keep HN.out (HFR.out.trans (HFX.out.trans hW)))
              clear hokd hoid hod hwbx hbb hfb hS
              have hki : (k : Int) < (n : Int) := by omega
              have hk0 : (0 : Int) ≤ (k : Int) := by omega
              have ek : IntKind.i64.wrap ((k : Int) + 1) = (k : Int) + 1 := IntWalk.i64_in _ (by omega)
              go_wp2_with fail
              rw [← HWBX.out]
              clear HWBX c0 c1 c2
              refine (HST.out wbx (Fr.refl _ _)).mono ?_
              rintro e w5 ⟨rfl, bs4, cs4, N4, hp4, hf4⟩
              have HP5 := Lib.hid hp4
              have HF5 := Lib.hid (TkPairG.clean (HP.out.keep HFX.out) HBC.out.1 HBC.out.2.1 (HFR.out.trans HFX.out) hf4)
              clear hp4 hf4 b0 b1 b2 HST
              go_wp2
              go_roundw
              case rel => exact ⟨k + 1, bs4, cs4, N4, by omega, by go_num, HP5.out, HF5.out⟩
              case measure => simp [intOf] <;> omega
            · have hki : ¬ (k : Int) < (n : Int) := by omega
              go_wp2_with fail
              refine (Bytes_T B bs wr t kd vr N HP.out.f (nib_keep HN.out HFR.out)).mono ?_
              rintro e w5 ⟨v, rfl, hv⟩
              obtain ⟨g5, c5, rfl, -, -, hb5, hf5⟩ := hv.bytes
              have HB5 := Lib.hid hb5
              have HP5 := Lib.hid (HP.out.keep hf5)
              have HF5 := Lib.hid (HFR.out.trans hf5)
              clear hv hb5 hf5
              go_wp2_with fail
              refine (Bytes_Q C cs w5 q kd vr N HP5.out.m HIN.out.1 HIN.out.2).mono ?_
              rintro e w6 ⟨v, rfl, hv⟩
              obtain ⟨g6, c6, rfl, -, -, hb6, hf6⟩ := hv.bytes
              have HF6 := Lib.hid (HF5.out.trans hf6)
              have HP6 := Lib.hid (HP5.out.keep hf6)
              have HSM := Lib.hid (same11 (some ⟨g5, 0, none⟩) (some ⟨g6, 0, none⟩) c5 c6 _ _ w6 (fun h => by cases h) (fun h => by cases h) (HB5.out.keep hf6) hb6)
              rw [beq_self_eq_true] at HSM
              clear hv hb6 hf6
              have HL1 := Lib.hid (Len_T B bs w6 t kd vr N HP6.out.f)
              have HL2 := Lib.hid (Len_Q C cs w6 q kd vr N HP6.out.m)
              obtain ⟨L, hL⟩ : ∃ L, L = lenN N := ⟨_, rfl⟩
              rw [← hL] at HL1 HL2
              clear hL
              have hll : ((L : Int) == (L : Int)) = true := by simp
              go_wp2_with fail
              refine HSM.out.mono ?_
              rintro e w' ⟨rfl, rfl⟩
              go_wp2_with fail
              refine HL1.out.mono ?_
              rintro e w' ⟨rfl, rfl⟩
              go_wp2_with fail
              refine HL2.out.mono ?_
              rintro e w' ⟨rfl, rfl⟩
              go_wp2
              go_ret
              exact ⟨rfl, HF6.out⟩
end Go.Proofs.YtlckhfjkdahfpaaDoor
