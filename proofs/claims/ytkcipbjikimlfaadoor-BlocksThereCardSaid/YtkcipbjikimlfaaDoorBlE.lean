/- Blocks: BlocksThere. -/
import Derived.Test.YtkcipbjikimlfaaDoorBlD
import Derived.Test.YtkcipbjikimlfaaDoorMbQ
namespace Go.Proofs.YtkcipbjikimlfaaDoor
open Go.RowKit
attribute [local go_sem ↓] Go.wp_at_zero Go.wp_at_succ
attribute [local go_sem] Oper.semAt_some
theorem st_ok {s : RFS} {l : List UInt8} (h32 : s.sz = 32) (hl : liveN s.R + nBlk l.length ≤ 65536) : stE s l.length = 0 ∧ stI s l.length = idAt s.R 0 ∧ stS s l = stR s.R l := by
  have h : stE s l.length = 0 := by unfold stE; rw [if_neg (by omega), if_neg (by omega)]
  exact ⟨h, by unfold stI; rw [if_pos h], by unfold stS; rw [if_pos h]⟩
theorem checkE_of {s : RFS} (h32 : s.sz = 32) (h : soundAll s.R = true ∧ namedAll s.R = true ∧ totalN s.R s.R.length = liveN s.R) : checkE s = 0 := by
  obtain ⟨h1, h2, h3⟩ := h
  unfold checkE
  rw [if_neg (by omega), if_neg (by rw [h1]; decide), if_neg (by rw [h2]; decide), if_neg (by omega)]
theorem there_law {s t1 t2 : RFS} {la lb : List UInt8} (h32 : s.sz = 32) (hab : liveN s.R + nBlk la.length + nBlk lb.length ≤ 65536) (h1 : Like s t1 (stR s.R la)) (h2 : Like t1 t2 (stR t1.R lb)) :
    t2.sz = 32 ∧ idAt s.R 0 ≠ idAt t1.R 0 ∧ HasC t2.R la (idAt s.R) (nBlk la.length) ∧ HasC t2.R lb (idAt t1.R) (nBlk lb.length) ∧ (checkE s = 0 → checkE t2 = 0) ∧
    (dropS t2 (idsI (idAt s.R) (nBlk la.length))).sz = 32 ∧ HasC (dropS t2 (idsI (idAt s.R) (nBlk la.length))).R lb (idAt t1.R) (nBlk lb.length) ∧ liveN (dropS (dropS t2 (idsI (idAt s.R) (nBlk la.length))) (idsI (idAt t1.R) (nBlk lb.length))).R = liveN s.R := by
  have hl1 : liveN t1.R = liveN s.R + nBlk la.length := by rw [h1.R, liveN_stR]
  have hl2 : liveN t2.R = liveN t1.R + nBlk lb.length := by rw [h2.R, liveN_stR]
  have hsz : t2.sz = 32 := by rw [h2.sz, h1.sz]; exact h32
  have hA1 : HasC t1.R la (idAt s.R) (nBlk la.length) := by rw [h1.R]; exact stR_has s.R la (by omega)
  have hA2 : HasC t2.R la (idAt s.R) (nBlk la.length) := hA1.keep fun i hi => by rw [h2.R]; exact stR_old (hA1.used hi)
  have hB2 : HasC t2.R lb (idAt t1.R) (nBlk lb.length) := by rw [h2.R]; exact stR_has t1.R lb (by omega)
  have hdis : ∀ i j, i < nBlk la.length → idAt s.R i ≠ idAt t1.R j := fun i j hi e => by
    have h := hA1.used hi
    rw [e] at h
    unfold usedB at h
    rw [idAt_free] at h
    cases h
  obtain ⟨d1, d2, d3⟩ := dropS_facts (idsI (idAt s.R) (nBlk la.length)) t2 (hA2.nodup _ (Nat.le_refl _)) fun k hk => by
    obtain ⟨j, hj, rfl⟩ := mem_idsI.1 hk
    exact hA2.used hj
  have hB3 : HasC (dropS t2 (idsI (idAt s.R) (nBlk la.length))).R lb (idAt t1.R) (nBlk lb.length) := hB2.keep fun i hi => d3 _ fun hm => by
    obtain ⟨j, hj, e⟩ := mem_idsI.1 hm
    exact hdis j i hj e
  obtain ⟨e1, e2, e3⟩ := dropS_facts (idsI (idAt t1.R) (nBlk lb.length)) (dropS t2 (idsI (idAt s.R) (nBlk la.length))) (hB3.nodup _ (Nat.le_refl _)) fun k hk => by
    obtain ⟨j, hj, rfl⟩ := mem_idsI.1 hk
    exact hB3.used hj
  rw [idsI_length] at d2 e2
  refine ⟨hsz, hdis 0 0 hA1.pos, hA2, hB2, fun hc => ?_, by rw [d1]; exact hsz, hB3, by omega⟩
  obtain ⟨-, c1, c2, c3⟩ := checkE_zero hc
  have k1 := stR_check (l := la) (by omega) c1 ⟨c2, c3⟩
  rw [← h1.R] at k1
  have k2 := stR_check (l := lb) (by omega) k1.1 ⟨k1.2.1, k1.2.2⟩
  rw [← h2.R] at k2
  exact checkE_of hsz k2
set_option maxRecDepth 100000 in
set_option maxHeartbeats 6400000 in
theorem blocksThere_walk (a : Option Addr) (c : Nat) (l : List UInt8) (a1 : Option Addr) (c1 : Nat) (l1 : List UInt8) (a2 : Option Addr) (c2 : Nat) (l2 : List UInt8) (w : World) (hl : l.length ≤ 140737488351300) (hc : l.length ≤ c) (hno : a = none → c = 0) (hb : Bytes w a l)
    (hl1 : l1.length ≤ 140737488351232) (hno1 : a1 = none → c1 = 0) (hb1 : Bytes w a1 l1) (hl2 : l2.length ≤ 140737488351232) (hno2 : a2 = none → c2 = 0) (hb2 : Bytes w a2 l2) (hn : Nib w) :
    Calls Tryd.prog 4 #[.slice a l.length c, .slice a1 l1.length c1, .slice a2 l2.length c2] w fun e w' => e = .returned (.bool true) ∧ Fr [] w w' := by
  have HNB := Lib.hid hn
  have HB := Lib.hid hb
  have HNO := Lib.hid hno
  have HC := Lib.hid hc
  have HB1 := Lib.hid hb1
  have HNO1 := Lib.hid hno1
  have HB2 := Lib.hid hb2
  have HNO2 := Lib.hid hno2
  clear hn hb hno hc hb1 hno1 hb2 hno2
  go_enter Tryd.func4, Tryd.ntmps4
  go_wp2_with fail
  refine (speaks10 w).mono ?_
  rintro e w1 ⟨rfl, hf1⟩
  have HF1 := Lib.hid hf1
  clear hf1
  go_wp2_with fail
  refine (open10 a c l w1 hl HC.out HNO.out (HB.out.keep HF1.out) (nib_keep HNB.out HF1.out)).mono ?_
  rintro e w2 (⟨rfl, hf2⟩ | ⟨kd, vr, sz, R, p, q, bs, cs, hE, rfl, hbo, hf2⟩)
  · have HF2 := Lib.hid (HF1.out.trans hf2)
    clear hf2
    go_wp2_with fail
    go_ret
    exact ⟨rfl, HF2.out⟩
  · have HF2 := Lib.hid (HF1.out.trans hf2)
    have HBO := Lib.hid hbo
    have HB0 := Lib.hid (show w.heap.size ≤ w1.heap.size from HF1.out.size)
    clear hf2 hE hbo
    obtain ⟨B0, hB0⟩ : ∃ B0, B0 = w1.heap.size := ⟨_, rfl⟩
    rw [← hB0] at HBO HB0
    obtain ⟨s, hs⟩ : ∃ s : RFS, s = ⟨kd, vr, sz, 0, R⟩ := ⟨_, rfl⟩
    rw [← hs] at HBO
    clear hs hB0
    have x2 : w2.cell? ⟨q, 2, none⟩ = some (.int .i64 s.sz) := by
      obtain ⟨v, X, h, -⟩ := HBO.out.m
      exact (four h.obj).2.2.1
    have hhi := HBO.out.f.ok.hi
    by_cases h32 : s.sz = 32
    · have H32 := Lib.hid h32
      rw [h32] at x2
      have HL9 := Lib.hid (Live9 _ cs w2 q s HBO.out.m)
      obtain ⟨lv, hlv⟩ : ∃ lv, lv = liveN s.R := ⟨_, rfl⟩
      have hlv6 : lv ≤ 65536 := by rw [hlv]; exact Nat.le_trans (liveN_le _) HBO.out.f.ok.len
      rw [← hlv] at HL9
      have HLV := Lib.hid hlv
      clear hlv h32
      by_cases h60 : lv ≤ 60000
      · have h60i : ¬ (60000 : Int) < (lv : Int) := by omega
        have q1 : IntKind.i64.wrap ((l1.length : Int) + (l2.length : Int)) = ((l1.length + l2.length : Nat) : Int) := by rw [IntWalk.i64_in _ (by omega)]; omega
        obtain ⟨ab, hab⟩ : ∃ ab, ab = l1.length + l2.length := ⟨_, rfl⟩
        rw [← hab] at q1
        have HAB := Lib.hid hab
        clear hab
        by_cases h1000 : ab ≤ 1000
        · have habi : ¬ (1000 : Int) < (ab : Int) := by omega
          have hroom : liveN s.R + nBlk l1.length + nBlk l2.length ≤ 65536 := by
            have h1 := HLV.out
            have h2 := HAB.out
            unfold nBlk
            omega
          have HROOM := Lib.hid hroom
          have HCK := Lib.hid (Check_F _ bs w2 p s HBO.out.f)
          obtain ⟨E, hE⟩ : ∃ E, E = checkE s := ⟨_, rfl⟩
          rw [← hE] at HCK
          have HEE := Lib.hid hE
          clear hroom hE h1000
          go_wp2_with fail
          refine HL9.out.mono ?_
          rintro e w' ⟨rfl, rfl⟩
          go_wp2_with fail
          refine HCK.out.mono ?_
          rintro e w3 ⟨rfl, hf3⟩
          have HF3 := Lib.hid (HF2.out.trans hf3)
          have HR3 := Lib.hid (HBO.out.f.keep hf3)
          have HV3 := Lib.hid (Live_F _ bs w3 p s HR3.out)
          rw [← HLV.out] at HV3
          clear hf3 HCK HL9 x2
          go_wp2_with fail
          refine HV3.out.mono ?_
          rintro e w' ⟨rfl, rfl⟩
          go_wp2_with fail
          -- clone(a)
          refine (clone_any a1 c1 l1 w3 (by omega) HNO1.out (HB1.out.keep HF3.out)).mono ?_
          rintro e w4 ⟨v, rfl, hv⟩
          obtain ⟨g, cap, rfl, hg, hg2, hbc, hf4⟩ := hv.bytes
          have HCP := Lib.hid hv.cap
          have HR4 := Lib.hid (HR3.out.keep hf4)
          have HF4 := Lib.hid (HF3.out.trans hf4)
          have hgb : g ∉ bs := fun hm => by have := (HR3.out.lt g hm).2; omega
          have HST := Lib.hid (Store_F _ bs w4 p s (some ⟨g, 0, none⟩) cap l1 HR4.out hl1 HCP.out (fun h => by cases h) hbc (fun ad e => by cases e; exact hgb))
          obtain ⟨s1, s2, s3⟩ := st_ok (l := l1) H32.out (by have := HROOM.out; omega)
          rw [s1, s2, s3] at HST
          clear hv hbc hf4 hg hg2 hgb s1 s2 s3 HV3
          go_wp2_with fail
          refine HST.out.mono ?_
          rintro e w5 ⟨rfl, bs5, t1, h5, k5, st5⟩
          have HR5 := Lib.hid h5
          have HK5 := Lib.hid k5
          have HF5 := Lib.hid (HF4.out.next st5.1 (fun i hi hlt => by have := (HR4.out.lt i hi).1; have := HB0.out; omega))
          clear h5 k5 st5 HST
          go_wp2_with fail
          refine (clone_any a2 c2 l2 w5 (by omega) HNO2.out (HB2.out.keep HF5.out)).mono ?_
          rintro e w6 ⟨v, rfl, hv⟩
          obtain ⟨g', cap', rfl, hg, hg2, hbc, hf6⟩ := hv.bytes
          have HCP := Lib.hid hv.cap
          have HR6 := Lib.hid (HR5.out.keep hf6)
          have HF6 := Lib.hid (HF5.out.trans hf6)
          have hgb : g' ∉ bs5 := fun hm => by have := (HR5.out.lt g' hm).2; omega
          have HST := Lib.hid (Store_F _ bs5 w6 p t1 (some ⟨g', 0, none⟩) cap' l2 HR6.out hl2 HCP.out (fun h => by cases h) hbc (fun ad e => by cases e; exact hgb))
          obtain ⟨s1, s2, s3⟩ := st_ok (s := t1) (l := l2) (by rw [HK5.out.sz]; exact H32.out) (by have := HROOM.out; rw [HK5.out.R, liveN_stR]; omega)
          rw [s1, s2, s3] at HST
          clear hv hbc hf6 hg hg2 hgb s1 s2 s3
          go_wp2_with fail
          refine HST.out.mono ?_
          rintro e w7 ⟨rfl, bs7, t2, h7, k7, st7⟩
          have HR7 := Lib.hid h7
          have HF7 := Lib.hid (HF6.out.next st7.1 (fun i hi hlt => by have := (HR6.out.lt i hi).1; have := HB0.out; omega))
          obtain ⟨z1, z2, z3, z4, z5, z6, z7, z8⟩ := there_law H32.out HROOM.out HK5.out k7
          obtain ⟨I, hI⟩ : ∃ I, I = idAt s.R := ⟨_, rfl⟩
          obtain ⟨J, hJ⟩ : ∃ J, J = idAt t1.R := ⟨_, rfl⟩
          rw [← hI] at z2 z3 z6 z7 z8 ⊢
          rw [← hJ] at z2 z4 z7 z8 ⊢
          obtain ⟨nA, hnA⟩ : ∃ nA, nA = nBlk l1.length := ⟨_, rfl⟩
          obtain ⟨nB, hnB⟩ : ∃ nB, nB = nBlk l2.length := ⟨_, rfl⟩
          rw [← hnA] at z3 z6 z7 z8
          rw [← hnB] at z4 z7 z8
          have HZ1 := Lib.hid z1
          have HZ3 := Lib.hid z3
          have HZ4 := Lib.hid z4
          have HZ5 := Lib.hid z5
          have HZ6 := Lib.hid z6
          have HZ7 := Lib.hid z7
          have HZ8 := Lib.hid z8
          have hij : ((I 0 : Int) == (J 0 : Int)) = false := by rw [beq_eq_false_iff_ne]; omega
          have HLA := Lib.hid (Load_F _ bs7 w7 p t2 (I 0 : Nat) h7)
          rw [z3.walkE z1, z3.loadE z1] at HLA
          have HLB : Hid (∀ W, Fr [] w7 W → _) := Lib.hid (fun W (hW : Fr [] w7 W) => Load_F _ bs7 W p t2 (J 0 : Nat) (h7.keep hW))
          rw [z4.walkE z1, z4.loadE z1] at HLB
          clear h7 k7 st7 z1 z2 z3 z4 z5 z6 z7 z8 hI hJ hnA hnB HST
          go_wp2_with fail
          refine HLA.out.mono ?_
          rintro e w8 ⟨v8, rfl, hg8⟩
          obtain ⟨a8, c8, rfl⟩ := own_slR hg8.1
          have hn8 := spl_none hg8.1
          obtain ⟨a8', c8', e8, hb8, -, -, -, -⟩ := Bytes.of_own hg8.1
          simp only [Value.slice.injEq] at e8
          obtain ⟨rfl, -, rfl⟩ := e8
          have HB8 := Lib.hid hb8
          have HN8 := Lib.hid hn8
          have HF8 := Lib.hid hg8.2
          clear hg8 hb8 hn8 HLA
          go_wp2_with fail
          refine (HLB.out w8 HF8.out).mono ?_
          rintro e w9 ⟨v9, rfl, hg9⟩
          obtain ⟨a9, c9, rfl⟩ := own_slR hg9.1
          have hn9 := spl_none hg9.1
          obtain ⟨a9', c9', e9, hb9, -, -, -, -⟩ := Bytes.of_own hg9.1
          simp only [Value.slice.injEq] at e9
          obtain ⟨rfl, -, rfl⟩ := e9
          have HF9 := Lib.hid (HF8.out.trans hg9.2)
          have HS1 := Lib.hid (same_any a8 a1 c8 c1 l1 l1 w9 HN8.out HNO1.out (HB8.out.keep hg9.2) (HB1.out.keep (HF7.out.trans HF9.out)))
          have HS2 := Lib.hid (same_any a9 a2 c9 c2 l2 l2 w9 hn9 HNO2.out hb9 (HB2.out.keep (HF7.out.trans HF9.out)))
          rw [beq_self_eq_true] at HS1 HS2
          clear hg9 hb9 hn9
          by_cases hE0 : E = 0
          · have hE0i : (E == 0) = true := by rw [hE0]; rfl
            have HCK := Lib.hid (Check_F _ bs7 w9 p t2 (HR7.out.keep HF9.out))
            rw [HZ5.out (by rw [← HEE.out]; exact hE0)] at HCK
            clear hE0
            go_wp2_with fail
            refine HS1.out.mono ?_
            rintro e w' ⟨rfl, rfl⟩
            go_wp2_with fail
            refine HS2.out.mono ?_
            rintro e w' ⟨rfl, rfl⟩
            go_wp2_with fail
            refine HCK.out.mono ?_
            rintro e wc ⟨rfl, hfc⟩
            have HFC := Lib.hid (HF9.out.trans hfc)
            clear hfc
            have HR9 := Lib.hid (HR7.out.keep HFC.out)
            have HD1 := Lib.hid (Drop_F _ bs7 wc p t2 (I 0 : Nat) HR9.out)
            rw [HZ3.out.walkE HZ1.out] at HD1
            go_wp2_with fail
            refine HD1.out.mono ?_
            rintro e wd ⟨rfl, bsd, hd, sd⟩
            have HRD := Lib.hid hd
            have HFD := Lib.hid ((HF7.out.trans HFC.out).next sd.1 (fun i hi hlt => by have := (HR9.out.lt i hi).1; have := HB0.out; omega))
            have HL3 := Lib.hid (Load_F _ bsd wd p _ (J 0 : Nat) hd)
            rw [HZ7.out.walkE HZ6.out, HZ7.out.loadE HZ6.out] at HL3
            clear hd sd HD1
            go_wp2_with fail
            refine HL3.out.mono ?_
            rintro e we ⟨ve, rfl, hge⟩
            obtain ⟨ae, ce, rfl⟩ := own_slR hge.1
            have hne := spl_none hge.1
            obtain ⟨ae', ce', ee, hbe, -, -, -, -⟩ := Bytes.of_own hge.1
            simp only [Value.slice.injEq] at ee
            obtain ⟨rfl, -, rfl⟩ := ee
            have HFE := Lib.hid (HFD.out.trans hge.2)
            have HRE := Lib.hid (HRD.out.keep hge.2)
            have HS3 := Lib.hid (same_any ae a2 ce c2 l2 l2 we hne HNO2.out hbe (HB2.out.keep HFE.out))
            rw [beq_self_eq_true] at HS3
            have HD2 := Lib.hid (Drop_F _ bsd we p _ (J 0 : Nat) HRE.out)
            rw [HZ7.out.walkE HZ6.out] at HD2
            clear hge hbe hne HL3
            go_wp2_with fail
            refine HS3.out.mono ?_
            rintro e w' ⟨rfl, rfl⟩
            go_wp2_with fail
            refine HD2.out.mono ?_
            rintro e wf ⟨rfl, bsf, hf, sf⟩
            have HFF := Lib.hid (HFE.out.next sf.1 (fun i hi hlt => by have := (HRE.out.lt i hi).1; have := HB0.out; omega))
            have HVF := Lib.hid (Live_F _ bsf wf p _ hf)
            rw [HZ8.out, ← HLV.out] at HVF
            have hlvv : (lv == lv) = true := beq_self_eq_true _
            clear hf sf HD2
            go_wp2_with fail
            refine HVF.out.mono ?_
            rintro e w' ⟨rfl, rfl⟩
            go_wp2_with fail
            go_ret
            exact ⟨rfl, HFF.out⟩
          · have hE0i : (E == 0) = false := by rw [beq_eq_false_iff_ne]; exact hE0
            clear hE0
            go_wp2_with fail
            refine HS1.out.mono ?_
            rintro e w' ⟨rfl, rfl⟩
            go_wp2_with fail
            refine HS2.out.mono ?_
            rintro e w' ⟨rfl, rfl⟩
            have HR9 := Lib.hid (HR7.out.keep HF9.out)
            have HD1 := Lib.hid (Drop_F _ bs7 w9 p t2 (I 0 : Nat) HR9.out)
            rw [HZ3.out.walkE HZ1.out] at HD1
            go_wp2_with fail
            refine HD1.out.mono ?_
            rintro e wd ⟨rfl, bsd, hd, sd⟩
            have HRD := Lib.hid hd
            have HFD := Lib.hid ((HF7.out.trans HF9.out).next sd.1 (fun i hi hlt => by have := (HR9.out.lt i hi).1; have := HB0.out; omega))
            have HL3 := Lib.hid (Load_F _ bsd wd p _ (J 0 : Nat) hd)
            rw [HZ7.out.walkE HZ6.out, HZ7.out.loadE HZ6.out] at HL3
            clear hd sd HD1
            go_wp2_with fail
            refine HL3.out.mono ?_
            rintro e we ⟨ve, rfl, hge⟩
            obtain ⟨ae, ce, rfl⟩ := own_slR hge.1
            have hne := spl_none hge.1
            obtain ⟨ae', ce', ee, hbe, -, -, -, -⟩ := Bytes.of_own hge.1
            simp only [Value.slice.injEq] at ee
            obtain ⟨rfl, -, rfl⟩ := ee
            have HFE := Lib.hid (HFD.out.trans hge.2)
            have HRE := Lib.hid (HRD.out.keep hge.2)
            have HS3 := Lib.hid (same_any ae a2 ce c2 l2 l2 we hne HNO2.out hbe (HB2.out.keep HFE.out))
            rw [beq_self_eq_true] at HS3
            have HD2 := Lib.hid (Drop_F _ bsd we p _ (J 0 : Nat) HRE.out)
            rw [HZ7.out.walkE HZ6.out] at HD2
            clear hge hbe hne HL3
            go_wp2_with fail
            refine HS3.out.mono ?_
            rintro e w' ⟨rfl, rfl⟩
            go_wp2_with fail
            refine HD2.out.mono ?_
            rintro e wf ⟨rfl, bsf, hf, sf⟩
            have HFF := Lib.hid (HFE.out.next sf.1 (fun i hi hlt => by have := (HRE.out.lt i hi).1; have := HB0.out; omega))
            have HVF := Lib.hid (Live_F _ bsf wf p _ hf)
            rw [HZ8.out, ← HLV.out] at HVF
            have hlvv : (lv == lv) = true := beq_self_eq_true _
            clear hf sf HD2
            go_wp2_with fail
            refine HVF.out.mono ?_
            rintro e w' ⟨rfl, rfl⟩
            go_wp2_with fail
            go_ret
            exact ⟨rfl, HFF.out⟩
        · have habi : (1000 : Int) < (ab : Int) := by omega
          go_wp2_with fail
          refine HL9.out.mono ?_
          rintro e w' ⟨rfl, rfl⟩
          go_wp2_with fail
          go_ret
          exact ⟨rfl, HF2.out⟩
      · have h60i : (60000 : Int) < (lv : Int) := by omega
        go_wp2_with fail
        refine HL9.out.mono ?_
        rintro e w' ⟨rfl, rfl⟩
        go_wp2_with fail
        go_ret
        exact ⟨rfl, HF2.out⟩
    · have h32i : ((s.sz : Int) != 32) = true := by rw [bne_iff_ne]; omega
      go_wp2_with fail
      go_ret
      exact ⟨rfl, HF2.out⟩
end Go.Proofs.YtkcipbjikimlfaaDoor
