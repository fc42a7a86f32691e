/- Blocks: BlocksSound. -/
import Derived.Test.YtkcipbjikimlfaaDoorBlA
namespace Go.Proofs.YtkcipbjikimlfaaDoor
open Go.RowKit
attribute [local go_sem ↓] Go.wp_at_zero Go.wp_at_succ
attribute [local go_sem] Oper.semAt_some
theorem checkE_zero {s : RFS} (h : checkE s = 0) : s.sz = 32 ∧ soundAll s.R = true ∧ namedAll s.R = true ∧ totalN s.R s.R.length = liveN s.R := by
  unfold checkE at h
  by_cases h1 : s.sz ≠ 32
  · rw [if_pos h1] at h; cases h
  rw [if_neg h1] at h
  by_cases h2 : soundAll s.R = false
  · rw [if_pos h2] at h; cases h
  rw [if_neg h2] at h
  by_cases h3 : namedAll s.R = false
  · rw [if_pos h3] at h; cases h
  rw [if_neg h3] at h
  by_cases h4 : totalN s.R s.R.length ≠ liveN s.R
  · rw [if_pos h4] at h; cases h
  exact ⟨by omega, by simpa using h2, by simpa using h3, by omega⟩
theorem own_mkI (w : World) (n : Nat) (hn : n ≤ 1000000) : (w.alloc (.cells (Array.replicate n (Value.int .i64 0)) 3)).ownsRow w.heap.size 3 1 (.slice (some ⟨w.heap.size, 0, none⟩) n n) n (List.replicate n (.int .i64 0)) :=
  ⟨by simp, .inr ⟨w.heap.size, n, _, rfl, Nat.le_refl _, heap_alloc_new w _, Nat.le_refl _, by unfold maxLen; omega, by simp, by rw [Nat.mul_one]; simp⟩⟩
theorem chR_head {R : Recs} {i : Nat} (hu : usedB R i = true) (he : (walkS R (i : Nat)).2 = 0) : (chR R i).getD 0 0 = i := by
  have h : walkN R i (R.length + 1) [] (i : Nat) = (chR R i, 0) := by
    rw [← walkS_use hu]
    exact Prod.ext rfl he
  cases hg : goodR R i i with
  | false =>
    rw [walkN_bad (by simp) hg] at h
    exact absurd (congrArg Prod.snd h) (by intro h; cases h)
  | true =>
    rw [walkN_on (by simp) hg] at h
    obtain ⟨-, -, -, -, t, ht⟩ := walkN_ok R.length ([] ++ [i]) (nxtR R i) (chR R i) h ⟨rfl, rfl⟩ (by simp) (fun u hu' => by
      have : u = i := by simpa using hu'
      rw [this]; exact hu) (sndR_next (goodR_snd hg))
    rw [ht]
    rfl
set_option maxRecDepth 100000 in
set_option maxHeartbeats 6400000 in
theorem blocksSound_walk (a : Option Addr) (c : Nat) (l : List UInt8) (w : World) (hl : l.length ≤ 140737488351300) (hc : l.length ≤ c) (hno : a = none → c = 0) (hb : Bytes w a l) (hn : Nib w) :
    Calls Tryd.prog 3 #[.slice a l.length c] w fun e w' => e = .returned (.bool true) ∧ Fr [] w w' := by
  have HN := Lib.hid hn
  have HB := Lib.hid hb
  have HNO := Lib.hid hno
  have HC := Lib.hid hc
  clear hn hb hno hc
  go_enter Tryd.func3, Tryd.ntmps3
  go_wp2_with fail
  refine (speaks10 w).mono ?_
  rintro e w1 ⟨rfl, hf1⟩
  have HF1 := Lib.hid hf1
  clear hf1
  go_wp2_with fail
  refine (open10 a c l w1 hl HC.out HNO.out (HB.out.keep HF1.out) (nib_keep HN.out HF1.out)).mono ?_
  rintro e w2 (⟨rfl, hf2⟩ | ⟨kd, vr, sz, R, p, q, bs, cs, hE, rfl, hbo, hf2⟩)
  · have HF2 := Lib.hid (HF1.out.trans hf2)
    clear hf2
    go_wp2_with fail
    go_ret
    exact ⟨rfl, HF2.out⟩
  · have HF2 := Lib.hid (HF1.out.trans hf2)
    have HBO := Lib.hid hbo
    clear hf2 hE hbo
    obtain ⟨s, hs⟩ : ∃ s : RFS, s = ⟨kd, vr, sz, 0, R⟩ := ⟨_, rfl⟩
    rw [← hs] at HBO
    clear hs
    have HC1 := Lib.hid (Check_F _ bs w2 p s HBO.out.f)
    obtain ⟨E, hE⟩ : ∃ E, E = checkE s := ⟨_, rfl⟩
    rw [← hE] at HC1
    by_cases h0 : E = 0
    · have h0i : (E != 0) = false := by rw [h0]; rfl
      obtain ⟨h32, hsa, hna, htot⟩ := checkE_zero (hE.symm.trans h0)
      obtain ⟨hw, hnd, hall⟩ := (check_iff hsa).1 ⟨hna, htot⟩
      have H32 := Lib.hid h32
      have HWK := Lib.hid hw
      have HND := Lib.hid hnd
      obtain ⟨n, hn⟩ : ∃ n, n = s.R.length := ⟨_, rfl⟩
      have hn6 : n ≤ 65536 := by have := HBO.out.f.ok.len; omega
      have HLV : Hid ((allR s.R n).length = liveN s.R) := Lib.hid (by
        rw [← htot, hn]
        exact flat_len fun i hi => (chR_ok (startsK_mem hi).1 (hw i hi)).2.2.2.1)
      have hlv6 : liveN s.R ≤ 65536 := Nat.le_trans (liveN_le _) (by omega)
      have HN := Lib.hid hn
      have hmk := makeI n (by omega)
      clear hE h32 hsa hna htot hw hnd hall h0 hn
      go_wp2_with fail
      refine HC1.out.mono ?_
      rintro e w3 ⟨rfl, hf3⟩
      have HB3 := Lib.hid (HBO.out.keep hf3)
      have HF3 := Lib.hid (HF2.out.trans hf3)
      obtain ⟨ax, cx, y3⟩ := HB3.out.m.len3
      rw [← HN.out] at y3
      have y3' := ((Fr.refl [] w3).alloc (.cells (Array.replicate n (Value.int .i64 0)) 3)).cell y3 (by simp)
      clear hf3 HC1
      go_wp2_with fail
      have HO0 : Hid ((w3.alloc (.cells (Array.replicate n (Value.int .i64 0)) 3)).ownsRow w3.heap.size 3 1 (.slice (some ⟨w3.heap.size, 0, none⟩) n n) n (tB n [])) := Lib.hid (by rw [tB_nil]; exact own_mkI w3 n (by omega))
      clear y3 y3' hmk
      obtain ⟨g3, hg3⟩ : ∃ g3, g3 = w3.heap.size := ⟨_, rfl⟩
      rw [← hg3] at HO0 ⊢
      obtain ⟨b3, hb3⟩ : ∃ b3, b3 = w3.heap.size := ⟨_, rfl⟩
      have HB3W := Lib.hid (show w.heap.size ≤ b3 ∧ b3 ≤ g3 ∧ (∀ i ∈ bs, i < g3) ∧ (∀ i ∈ cs, i < g3) by
        refine ⟨by rw [hb3]; exact HF3.out.size, by omega, fun i hi => ?_, fun i hi => ?_⟩
        · have := (HB3.out.f.lt i hi).2; omega
        · have := (HB3.out.m.lt i hi).2; omega)
      have HF4 := Lib.hid (HF3.out.alloc (.cells (Array.replicate n (Value.int .i64 0)) 3))
      have HB4 := Lib.hid (HB3.out.keep ((Fr.refl [] w3).alloc (.cells (Array.replicate n (Value.int .i64 0)) 3)))
      rw [hg3] at HO0 ⊢
      rw [← hb3] at HO0 ⊢
      have hg3b : g3 = b3 := by omega
      clear hb3 hg3
      subst hg3b
      go_loopw [7, 42] (fun t i wr => ∃ (k T : Nat), k ≤ n ∧ i = .int .i64 k ∧ t = .int .i64 T ∧ T = (allR s.R k).length ∧ wr.ownsRow g3 3 1 (.slice (some ⟨g3, 0, none⟩) n n) n (tB n (allR s.R k)) ∧ Both _ _ wr p q bs cs s s ∧ Fr [] w wr) (fun _ i _ => n - (intOf i).toNat)
      case atStart => exact ⟨0, 0, by omega, rfl, rfl, rfl, HO0.out, HB4.out, HF4.out⟩
      case round =>
        clear HO0 HB4 HF4
        obtain ⟨k, T, hk, rfl, rfl, hT, ho, hbo, hf⟩ := hrel
        have HO := Lib.hid ho
        have HBW := Lib.hid hbo
        have HF := Lib.hid hf
        have HTT := Lib.hid hT
        have hT6 : T ≤ 65536 := by
          obtain ⟨t, ht⟩ := allR_prefix s.R n k hk
          have h1 := congrArg List.length ht
          rw [List.length_append, HLV.out] at h1
          omega
        clear ho hbo hf hT
        have ek : IntKind.i64.wrap ((k : Int) + 1) = (k : Int) + 1 := IntWalk.i64_in _ (by omega)
        by_cases hlt : k < n
        · have hki : (k : Int) < (n : Int) := by omega
          have hk0 : (0 : Int) ≤ (k : Int) := by omega
          have HU9 := Lib.hid (Used9 _ cs wr q s (k : Int) HBW.out.m)
          obtain ⟨u, hu⟩ : ∃ u, u = usedB s.R k := ⟨_, rfl⟩
          rw [← usedB_nat, ← hu] at HU9
          have HU := Lib.hid hu
          clear hu
          cases u with
          | false =>
            go_wp2_with fail
            refine HU9.out.mono ?_
            rintro e w' ⟨rfl, rfl⟩
            go_wp2_with fail
            go_roundw
            case rel =>
              have h1 : allR s.R (k + 1) = allR s.R k := by rw [allR_succ, ← HU.out]; simp
              exact ⟨k + 1, T, by omega, by go_num, rfl, by rw [h1]; exact HTT.out, by rw [h1]; exact HO.out, HBW.out, HF.out⟩
            case measure => simp [intOf] <;> omega
          | true =>
            obtain ⟨g, c, b, c2, y3, y4, y5, -, hbd, hdl⟩ := HBW.out.m.recU H32.out HU.out.symm
            rw [← HN.out] at y3
            have y6 := bytes_cellN hbd (j := 0) (by omega)
            rw [← nm_b1 (by omega), show nm (recAt s.R k) 0 1 = pSt (recAt s.R k) from rfl] at y6
            obtain ⟨st, hst⟩ : ∃ st, st = pSt (recAt s.R k) := ⟨_, rfl⟩
            rw [← hst] at y6
            have HST : Hid (stB s.R k = (st == 1)) := Lib.hid (by unfold stB; rw [hst])
            clear hst hbd hdl
            by_cases h1 : st = 1
            · have h1i : ((st : Int) != 1) = false := by rw [h1]; rfl
              have HS1 : Hid (stB s.R k = true) := Lib.hid (by rw [HST.out, h1]; rfl)
              have HE0 : Hid ((walkS s.R (k : Nat)).2 = 0) := Lib.hid (HWK.out k (startsK_at HU.out.symm HS1.out (by rw [← HN.out]; exact hlt)))
              have HCH := Lib.hid (chR_ok HU.out.symm HE0.out)
              have HHD := Lib.hid (chR_head HU.out.symm HE0.out)
              have HWF := Lib.hid (Walk_F _ bs wr p s (k : Nat) HBW.out.f)
              rw [show walkE s (k : Nat) = walkS s.R (k : Nat) by unfold walkE; rw [if_neg (by have := H32.out; omega)], HE0.out, show (walkS s.R (k : Nat)).1 = chR s.R k from rfl] at HWF
              clear h1
              go_wp2_with fail
              refine HU9.out.mono ?_
              rintro e w' ⟨rfl, rfl⟩
              go_wp2_with fail
              refine HWF.out.mono ?_
              rintro e w5 ⟨v6, rfl, ho6, hf5⟩
              obtain ⟨a6, c6, rfl⟩ := own_slR ho6
              obtain ⟨m, hm⟩ : ∃ m, m = (chR s.R k).length := ⟨_, rfl⟩
              have hm0 : 0 < m := by rw [hm]; exact List.length_pos_of_mem HCH.out.2.2.2.2
              have hmn : m ≤ n := by
                rw [hm, HN.out]
                exact nodup_le _ HCH.out.2.1 (fun x hx => usedB_lt (HCH.out.2.2.1 x hx))
              rw [← hm] at ho6 ⊢
              obtain ⟨g6, c6', e6, -, -, z6⟩ := own_intC ho6 (k := 0) (by rw [← hm]; exact hm0)
              simp only [Value.slice.injEq] at e6
              obtain ⟨rfl, -, -⟩ := e6
              rw [HHD.out] at z6
              have HG6 := Lib.hid (show g3 < g6 by
                have h2 := (own_lt HO.out (g := g3) rfl).2
                have h1 := (own_lt ho6 (g := g6) rfl).1
                omega)
              have HO6 := Lib.hid (own_base ho6 (Nat.zero_le _))
              have HO5 := Lib.hid (own_fr HO.out hf5 (by simp))
              have HB5 := Lib.hid (HBW.out.keep hf5)
              have HF5 := Lib.hid (HF.out.trans hf5)
              have HM := Lib.hid hm
              have hmi : (0 : Int) < (m : Int) := by omega
              have hm0b : ((m : Int) == 0) = false := by rw [beq_eq_false_iff_ne]; omega
              have hmne : ¬ m = 0 := by omega
              clear ho6 hf5 y3 y4 y5 y6 HO HBW HF HU9 HWF hm
              go_wp2_with fail
              clear z6
              go_loopw [7, 96] (fun t i wx => ∃ (j T2 : Nat), j ≤ m ∧ i = .int .i64 j ∧ t = .int .i64 T2 ∧ T2 = T + j ∧ wx.ownsRow g3 3 1 (.slice (some ⟨g3, 0, none⟩) n n) n (tB n (allR s.R k ++ (chR s.R k).take j)) ∧ wx.ownsRow 0 3 1 (.slice (some ⟨g6, 0, none⟩) m c6) m ((chR s.R k).map fun (k : Nat) => Value.int .i64 k) ∧ Both _ _ wx p q bs cs s s ∧ Fr [] w wx) (fun _ i _ => m - (intOf i).toNat)
              case atStart => exact ⟨0, T, by omega, rfl, rfl, rfl, by simpa using HO5.out, HO6.out, HB5.out, HF5.out⟩
              case round =>
                clear HO5 HO6 HB5 HF5
                obtain ⟨j, T2, hj, rfl, rfl, hT2, ho, ho6, hbo, hf⟩ := hrel
                have HO := Lib.hid ho
                have HO6 := Lib.hid ho6
                have HBJ := Lib.hid hbo
                have HF := Lib.hid hf
                have HT2 := Lib.hid hT2
                have hT26 : T2 ≤ 200000 := by omega
                clear ho ho6 hbo hf hT2
                have ej : IntKind.i64.wrap ((j : Int) + 1) = (j : Int) + 1 := IntWalk.i64_in _ (by omega)
                have eT : IntKind.i64.wrap ((T2 : Int) + 1) = (T2 : Int) + 1 := IntWalk.i64_in _ (by omega)
                by_cases hlj : j < m
                · have hji : (j : Int) < (m : Int) := by omega
                  have hj0 : (0 : Int) ≤ (j : Int) := by omega
                  have hjm : j < (chR s.R k).length := by rw [← HM.out]; exact hlj
                  obtain ⟨g', c', e', -, -, z6⟩ := own_intC HO6.out (k := j) hjm
                  simp only [Value.slice.injEq, Option.some.injEq, Addr.mk.injEq] at e'
                  obtain ⟨⟨rfl, -⟩, -, -⟩ := e'
                  obtain ⟨x, hx⟩ : ∃ x, x = (chR s.R k).getD j 0 := ⟨_, rfl⟩
                  rw [← hx] at z6
                  have HTK : Hid ((chR s.R k).take (j + 1) = (chR s.R k).take j ++ [x]) := Lib.hid (by rw [take_snocD hjm, hx])
                  have hxm : x ∈ chR s.R k := by
                    rw [hx, List.getD_eq_getElem?_getD, List.getElem?_eq_getElem hjm]
                    exact List.getElem_mem hjm
                  have hxu := HCH.out.2.2.1 x hxm
                  have hxn : x < n := by rw [HN.out]; exact usedB_lt hxu
                  obtain ⟨A, hA⟩ : ∃ A, A = allR s.R k ++ (chR s.R k).take j := ⟨_, rfl⟩
                  rw [← hA] at HO
                  have HA := Lib.hid hA
                  have hxA : x ∉ A := by
                    obtain ⟨t, ht⟩ := allR_prefix s.R n (k + 1) (by omega)
                    have h2 := HND.out
                    rw [← HN.out, ht, allR_succ, ← HU.out, HS1.out] at h2
                    have h3 := (List.nodup_append.1 h2).1
                    simp only [Bool.and_self, if_true] at h3
                    rw [← List.take_append_drop (j + 1) (chR s.R k), HTK.out, ← List.append_assoc, ← List.append_assoc, ← hA] at h3
                    have h4 := (List.nodup_append.1 h3).1
                    exact fun hm => (List.nodup_append.1 h4).2.2 x hm x (by simp) rfl
                  have z3 := own_cell0 HO.out (k := x) (v := .int .i64 0) (by rw [tB_get hxn, if_neg hxA]; rfl)
                  have z3f := own_freeS HO.out (g := g3) rfl x
                  have hx0 : (0 : Int) ≤ (x : Int) := by omega
                  have hxi : (x : Int) < (n : Int) := by omega
                  have hxneg : ¬ (x : Int) < 0 := by omega
                  have hxge : ¬ (n : Int) ≤ (x : Int) := by omega
                  have e01 : IntKind.i64.wrap (0 + 1) = 1 := by decide
                  have HU9 := Lib.hid (Used9 _ cs wr q s (x : Int) HBJ.out.m)
                  rw [← usedB_nat, hxu] at HU9
                  have hfs : Fr [g3] wr (wr.setCell ⟨g3, x, none⟩ (.int .i64 1)) := (Fr.refl [g3] wr).setCell (by simp) _
                  have HO3 := Lib.hid (own_set2 HO.out x (.int .i64 1))
                  have HO6X := Lib.hid (own_fr HO6.out hfs (fun g' hg' hm => by
                    simp at hm
                    have h1 : g6 = g' := by simpa [Value.ownBlock] using hg'
                    have := HG6.out
                    omega))
                  have HBX := Lib.hid (show Both _ _ (wr.setCell ⟨g3, x, none⟩ (.int .i64 1)) p q bs cs s s from ⟨HBJ.out.f.fr hfs (fun i hi hm => by simp at hm; have := HB3W.out.2.2.1 i hi; omega), HBJ.out.m.fr hfs (fun i hi hm => by simp at hm; have := HB3W.out.2.2.2 i hi; omega), HBJ.out.ap⟩)
                  have HFX := Lib.hid (HF.out.next hfs (fun t ht hlt => by simp at ht; have := HB3W.out.1; omega))
                  rw [tB_set hxn] at HO3
                  clear hx hjm hxm hxu hA hxA hfs
                  go_wp2_with fail
                  refine HU9.out.mono ?_
                  rintro e w' ⟨rfl, rfl⟩
                  go_wp2_with fail
                  go_roundw
                  case rel =>
                    have hA2 : allR s.R k ++ (chR s.R k).take (j + 1) = A ++ [x] := by rw [HTK.out, HA.out, List.append_assoc]
                    exact ⟨j + 1, T2 + 1, by omega, by go_num, by go_num, by have := HT2.out; omega, by rw [hA2]; exact HO3.out, HO6X.out, HBX.out, HFX.out⟩
                  case measure => simp [intOf] <;> omega
                · obtain rfl : m = j := by omega
                  have hji : ¬ (m : Int) < (m : Int) := by omega
                  have HA2 : Hid (allR s.R (k + 1) = allR s.R k ++ (chR s.R k).take m) := Lib.hid (by
                    rw [allR_succ, ← HU.out, HS1.out, List.take_of_length_le (by rw [← HM.out]; exact Nat.le_refl _)]
                    rfl)
                  go_wp2_with fail
                  go_roundw
                  case rel => exact ⟨k + 1, T2, by omega, by go_num, rfl, by rw [HA2.out, List.length_append, List.length_take, ← HTT.out, ← HM.out, HT2.out]; omega, by rw [HA2.out]; exact HO.out, HBJ.out, HF.out⟩
                  case measure => simp [intOf] <;> omega
            · have h1i : ((st : Int) != 1) = true := by rw [bne_iff_ne]; omega
              have HS1 : Hid (stB s.R k = false) := Lib.hid (by rw [HST.out, beq_eq_false_iff_ne]; exact h1)
              clear h1
              go_wp2_with fail
              refine HU9.out.mono ?_
              rintro e w' ⟨rfl, rfl⟩
              go_wp2_with fail
              go_roundw
              case rel =>
                have h1 : allR s.R (k + 1) = allR s.R k := by rw [allR_succ, HS1.out]; simp
                exact ⟨k + 1, T, by omega, by go_num, rfl, by rw [h1]; exact HTT.out, by rw [h1]; exact HO.out, HBW.out, HF.out⟩
              case measure => simp [intOf] <;> omega
        · obtain rfl : n = k := by omega
          have hki : ¬ (n : Int) < (n : Int) := by omega
          have HL9 := Lib.hid (Live9 _ cs wr q s HBW.out.m)
          rw [← HLV.out, ← HTT.out] at HL9
          have hTT : (T == T) = true := beq_self_eq_true _
          go_wp2_with fail
          refine HL9.out.mono ?_
          rintro e w' ⟨rfl, rfl⟩
          go_wp2_with fail
          go_ret
          exact ⟨rfl, HF.out⟩
    · have h0i : (E != 0) = true := by rw [bne_iff_ne]; exact h0
      clear hE h0
      go_wp2_with fail
      refine HC1.out.mono ?_
      rintro e w3 ⟨rfl, hf3⟩
      have HF3 := Lib.hid (HF2.out.trans hf3)
      clear hf3
      go_wp2_with fail
      go_ret
      exact ⟨rfl, HF3.out⟩
end Go.Proofs.YtkcipbjikimlfaaDoor
