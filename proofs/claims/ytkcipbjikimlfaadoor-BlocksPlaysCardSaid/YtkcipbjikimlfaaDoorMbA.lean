/- The document's blocks: Next, Sound. -/
import Derived.Test.YtkcipbjikimlfaaDoorBkI
import Derived.Test.YtkcipbjikimlfaaDoorMfF
namespace Go.Proofs.YtkcipbjikimlfaaDoor
open Go.RowKit
attribute [local go_sem ↓] Go.wp_at_zero Go.wp_at_succ
attribute [local go_sem] Oper.semAt_some
theorem I8_toN (x : UInt8) : I8 x = (x.toNat : Int) := by
  have h := I8_of_nat x.toNat x.toNat_lt
  rwa [UInt8.ofNat_toNat] at h
/-- a record in use, in memory -/
theorem MF.recU {B p : Nat} {bs : List Nat} {w : World} {s : RFS} (h : MF B bs w p s) (hs : s.sz = 32) {k : Nat} (hu : usedB s.R k = true) : ∃ g c b c2, w.cell? ⟨p, 3, none⟩ = some (.slice (some ⟨g, 0, none⟩) s.R.length c) ∧ w.cell? ⟨g, k * 2, none⟩ = some (.bool true) ∧ w.cell? ⟨g, k * 2 + 1, none⟩ = some (.slice (some ⟨b, 0, none⟩) 31 c2) ∧ 31 ≤ c2 ∧ Bytes w (some ⟨b, 0, none⟩) (recAt s.R k) ∧ (recAt s.R k).length = 31 := by
  obtain ⟨v, X, h, -⟩ := h
  have hk := usedB_lt hu
  obtain ⟨a, c, rfl, -⟩ := h.recs.sl
  obtain ⟨g, rfl, -, -⟩ := h.recs.pos (by rw [h.len]; omega)
  have x3 := (four h.obj).2.2.2
  rw [h.len] at x3
  obtain ⟨x, hx, -, hxp, c1, c2, ho, hxl⟩ := h.at hk
  have hsm : (s.R.getD k none).isSome = true := hu
  rw [hsm] at c1
  have hrd : x.d = recAt s.R k := by
    obtain ⟨d, hd⟩ := Option.isSome_iff_exists.1 hsm
    unfold recAt
    rw [hd] at hxp ⊢
    exact congrArg Prod.snd hxp
  rw [hs] at hxl
  obtain ⟨xu, xa, xc, xd⟩ := x
  simp only at hrd hxl
  subst hrd
  simp only [RI.v] at c2 ho
  have hb := own_by9 ho
  obtain ⟨b, rfl⟩ : ∃ b, xa = some ⟨b, 0, none⟩ := by
    rcases ho.2 with ⟨_, h0⟩ | ⟨g', cap, cur, e, _⟩
    · omega
    · simp only [Value.slice.injEq] at e
      exact ⟨g', e.1⟩
  rw [hxl] at c2
  exact ⟨g, c, b, xc, x3, c1, c2, by omega, hb.1, hxl⟩
theorem Next9 (b c : Nat) (d : List UInt8) (w : World) (hd : d.length = 31) (hc : 31 ≤ c) (hb : Bytes w (some ⟨b, 0, none⟩) d) :
    Calls Tryd.prog 48 #[.slice (some ⟨b, 0, none⟩) 31 c] w fun e w' => e = .returned (.int .i64 (pNx d)) ∧ w = w' := by
  have hlen : ((d.drop 2).take 4).length = 4 := by rw [List.length_take, List.length_drop]; omega
  have HV := Lib.hid (val_any (some ⟨b, 0 + 2, none⟩) (c - 2) ((d.drop 2).take 4) w (by omega) (hb.sub 2 4 (by omega)))
  obtain ⟨x, hx⟩ : ∃ x, x = nm d 2 4 := ⟨_, rfl⟩
  have hx4 : x ≤ 4294967295 := by rw [hx]; exact nm_le d 2 4 (by omega)
  rw [hlen, show U (be ((d.drop 2).take 4)) = (x : Int) by rw [hx, nm_def, U_lt _ (by have := nm_le d 2 4 (by omega); rw [nm_def] at this; omega)]] at HV
  have HX : Hid (pNx d = (x : Int) - 1) := Lib.hid (by unfold pNx; rw [hx])
  have q1 : IntKind.i64.wrap (x : Int) = (x : Int) := IntWalk.i64_in _ (by omega)
  have q2 : IntKind.i64.wrap ((x : Int) - 1) = (x : Int) - 1 := IntWalk.i64_in _ (by omega)
  have hc2 : (6 : Int) ≤ (c : Int) := by omega
  have hcn : ¬ c = 2 := by omega
  clear hb hd hc hx hlen
  go_enter Tryd.func48, Tryd.ntmps48
  go_wp2_with fail
  refine HV.out.mono ?_
  rintro e w' ⟨rfl, rfl⟩
  go_wp2_with fail
  go_ret
  exact ⟨by rw [HX.out]; rfl, rfl⟩
theorem nm_b1 {d : List UInt8} {q : Nat} (h : q < d.length) : nm d q 1 = (d.getD q 0).toNat := by
  rw [nm_def, List.drop_eq_getElem_cons h, List.getD_eq_getElem?_getD, List.getElem?_eq_getElem h]
  show be [d[q]] = _
  simp [be]
theorem soundV_in {R : Recs} {st us : Nat} {nx : Int} {D : List UInt8} (h1 : st ≤ 1) (h2 : us ≤ 25) (h3 : (D.drop us).all (fun x => x == 0) = true) : soundV R st us nx D = if nx = -1 then decide (st = 1 ∨ 0 < us) else decide (us = 25) && usedR R nx := by
  unfold soundV
  rw [decide_eq_true h1, decide_eq_true h2, h3]
  rfl
theorem pDa_getD (d : List UInt8) (j : Nat) (hj : j < 25) : (pDa d)[j]? = d[6 + j]? := by
  unfold pDa
  rw [List.getElem?_take_of_lt hj, List.getElem?_drop]
set_option maxRecDepth 100000 in
set_option maxHeartbeats 3200000 in
theorem Sound9 (B : Nat) (bs : List Nat) (w : World) (p : Nat) (s : RFS) (h : MF B bs w p s) (hs : s.sz = 32) (k : Nat) (hu : usedB s.R k = true) :
    Calls Tryd.prog 41 #[.pointer (some ⟨p, 0, none⟩), .int .i64 k] w fun e w' => e = .returned (.bool (sndR s.R k)) ∧ Fr [] w w' := by
  obtain ⟨g, c, b, c2, x3, y0, y1, hc2, hb, hdl⟩ := h.recU hs hu
  have hk := usedB_lt hu
  obtain ⟨d, hd⟩ : ∃ d, d = recAt s.R k := ⟨_, rfl⟩
  rw [← hd] at hb hdl
  have HB : Hid (∀ j, j < 31 → w.cell? ⟨b, j, none⟩ = some (.int .u8 ((d.getD j 0).toNat : Nat))) := Lib.hid fun j hj => by
    rcases hb with h0 | ⟨b', off, e, hcell⟩
    · rw [h0] at hdl; cases hdl
    · simp only [Option.some.injEq, Addr.mk.injEq] at e
      obtain ⟨rfl, rfl, -⟩ := e
      have h1 := hcell j (by omega)
      rw [Nat.zero_add] at h1
      rw [h1]
      show some (Value.int .u8 (I8 _)) = _
      rw [I8_toN]
  obtain ⟨st, hst⟩ : ∃ st, st = pSt d := ⟨_, rfl⟩
  obtain ⟨us, hus⟩ : ∃ us, us = pUs d := ⟨_, rfl⟩
  have b0 := HB.out 0 (by omega)
  have b1 := HB.out 1 (by omega)
  rw [← nm_b1 (by omega), show nm d 0 1 = st from hst.symm] at b0
  rw [← nm_b1 (by omega), show nm d 1 1 = us from hus.symm] at b1
  have hs8 : st ≤ 255 := by rw [hst]; exact nm_leB1 d 0
  have hu8 : us ≤ 255 := by rw [hus]; exact nm_leB1 d 1
  have HN : Hid (∀ W, Fr [] w W → _) := Lib.hid (fun W (hf : Fr [] w W) => Next9 b c2 d W hdl hc2 (hb.keep hf))
  obtain ⟨nx, hnx⟩ : ∃ nx, nx = pNx d := ⟨_, rfl⟩
  rw [← hnx] at HN
  have HU : Hid (∀ W, Fr [] w W → _) := Lib.hid (fun W (hf : Fr [] w W) => Used9 B bs W p s nx (h.keep hf))
  have HSV : Hid (sndR s.R k = soundV s.R st us nx (pDa d)) := Lib.hid (by unfold sndR; rw [← hd, hst, hus, hnx])
  have HDL := Lib.hid hdl
  have hk0 : (0 : Int) ≤ (k : Int) := by omega
  have hki : (k : Int) < (s.R.length : Int) := by omega
  obtain ⟨n, hn⟩ : ∃ n, n = s.R.length := ⟨_, rfl⟩
  rw [← hn] at hki x3
  have q1 : IntKind.i64.wrap (us : Int) = (us : Int) := IntWalk.i64_in _ (by omega)
  have q2 : IntKind.i64.wrap (6 + (us : Int)) = ((6 + us : Nat) : Int) := by rw [IntWalk.i64_in _ (by omega)]; omega
  obtain ⟨m0, hm0⟩ : ∃ m0, m0 = 6 + us := ⟨_, rfl⟩
  rw [← hm0] at q2
  have HM := Lib.hid hm0
  clear h hs hu hk hd hb hdl hst hus hnx hn hc2 hm0
  by_cases h1 : st ≤ 1
  · have h1i : ¬ (1 : Int) < (st : Int) := by omega
    by_cases h2 : us ≤ 25
    · have h2i : ¬ (25 : Int) < (us : Int) := by omega
      go_enter Tryd.func41, Tryd.ntmps41
      go_upto_region 2 with fail
      go_quiet (fail)
      obtain ⟨W, hW⟩ : ∃ W, W = w.drewN nq := ⟨_, rfl⟩
      rw [← hW]
      have HFW := Lib.hid (show Fr [] w W by rw [hW]; exact (Fr.refl [] w).drewN nq)
      clear hW
      go_wp2_with fail
      go_loopw [8] (fun q wr => ∃ i : Nat, m0 ≤ i ∧ i ≤ 31 ∧ q = .int .i64 i ∧ W = wr ∧ ∀ j, m0 ≤ j → j < i → d.getD j 0 = 0) (fun q _ => 31 - (intOf q).toNat)
      case atStart => exact ⟨m0, by omega, by have := HM.out; omega, rfl, by first | rfl | trivial, fun j h1 h2 => absurd h1 (by omega)⟩
      case round =>
        obtain ⟨i, hi1, hi2, rfl, rfl, hz⟩ := hrel
        have HZ0 := Lib.hid hz
        clear hz
        by_cases hlt : i < 31
        · have hii : (i : Int) < 31 := by omega
          have hi0 : (0 : Int) ≤ (i : Int) := by omega
          have c1 := HFW.out.cell (HB.out i hlt) (by simp)
          have e1 : IntKind.i64.wrap ((i : Int) + 1) = (i : Int) + 1 := IntWalk.i64_in _ (by omega)
          obtain ⟨z, hzz⟩ : ∃ z, z = (d.getD i 0).toNat := ⟨_, rfl⟩
          rw [← hzz] at c1
          have HZI := Lib.hid hzz
          clear hzz
          by_cases h3 : z = 0
          · have h3i : ((z : Int) != 0) = false := by rw [h3]; rfl
            have H3 := Lib.hid h3
            clear h3
            go_wp2_with fail
            go_roundw
            case rel =>
              refine ⟨i + 1, by omega, by omega, by go_num, by first | rfl | trivial, fun j hj1 hj2 => ?_⟩
              by_cases h : j < i
              · exact HZ0.out j hj1 h
              · rw [show j = i by omega]
                exact UInt8.toNat_inj.1 (by rw [← HZI.out, H3.out]; rfl)
            case measure => simp [intOf] <;> omega
          · have h3i : ((z : Int) != 0) = true := by rw [bne_iff_ne]; omega
            have H3 := Lib.hid h3
            clear h3
            go_wp2_with fail
            go_ret
            refine ⟨?_, HFW.out⟩
            have hne : ((pDa d).drop us).all (fun x => x == 0) = false := by
              rw [List.all_eq_false]
              have hM := HM.out
              have hi : i < d.length := by rw [HDL.out]; exact hlt
              refine ⟨d.getD i 0, ?_, ?_⟩
              · rw [List.mem_iff_getElem?]
                refine ⟨i - m0, ?_⟩
                rw [List.getElem?_drop, pDa_getD _ _ (by omega), show 6 + (us + (i - m0)) = i by omega, List.getD_eq_getElem?_getD, List.getElem?_eq_getElem hi]
                rfl
              · intro h0
                rw [beq_iff_eq] at h0
                exact H3.out (by rw [HZI.out, h0]; rfl)
            rw [HSV.out, soundV, hne]
            simp
        · obtain rfl : i = 31 := by omega
          have HAL : Hid (((pDa d).drop us).all (fun x => x == 0) = true) := Lib.hid (by
            rw [List.all_eq_true]
            intro x hx
            obtain ⟨j, hj⟩ := List.mem_iff_getElem?.1 hx
            have h1 := (List.getElem?_eq_some_iff.1 hj).1
            rw [List.length_drop, pDa_length HDL.out] at h1
            have hM := HM.out
            have h2 := HZ0.out (6 + (us + j)) (by omega) (by omega)
            rw [List.getElem?_drop, pDa_getD _ _ (by omega)] at hj
            rw [List.getD_eq_getElem?_getD, hj] at h2
            simpa using h2)
          have HSW := Lib.hid (soundV_in (R := s.R) (nx := nx) h1 h2 HAL.out)
          clear HZ0
          go_wp2_with fail
          refine (HN.out W HFW.out).mono ?_
          rintro e w' ⟨rfl, rfl⟩
          by_cases hn : nx = -1
          · subst hn
            by_cases h4 : st = 1
            · subst h4
              go_wp2_with fail
              go_ret
              refine ⟨?_, HFW.out⟩
              rw [HSV.out, HSW.out]
              simp
            · have h4i : ((st : Int) == 1) = false := by rw [beq_eq_false_iff_ne]; omega
              have H4 := Lib.hid h4
              clear h4
              go_wp2_with fail
              go_ret
              refine ⟨?_, HFW.out⟩
              rw [HSV.out, HSW.out]
              simp [H4.out]
          · have hni : (nx == -1) = false := by rw [beq_eq_false_iff_ne]; exact hn
            have HN1 := Lib.hid hn
            clear hn
            by_cases h6 : us = 25
            · have h6i : ((us : Int) == 25) = true := by rw [beq_iff_eq]; omega
              have H6 := Lib.hid h6
              clear h6
              go_wp2_with fail
              refine (HN.out W HFW.out).mono ?_
              rintro e w' ⟨rfl, rfl⟩
              go_wp2_with fail
              refine (HU.out W HFW.out).mono ?_
              rintro e w' ⟨rfl, rfl⟩
              go_wp2_with fail
              go_ret
              refine ⟨?_, HFW.out⟩
              rw [HSV.out, HSW.out, if_neg HN1.out, decide_eq_true H6.out]
              rfl
            · have h6i : ((us : Int) == 25) = false := by rw [beq_eq_false_iff_ne]; omega
              have H6 := Lib.hid h6
              clear h6
              go_wp2_with fail
              go_ret
              refine ⟨?_, HFW.out⟩
              rw [HSV.out, HSW.out, if_neg HN1.out, decide_eq_false H6.out]
              rfl
    · have h2i : (25 : Int) < (us : Int) := by omega
      go_enter Tryd.func41, Tryd.ntmps41
      go_upto_region 2 with fail
      go_quiet (fail)
      obtain ⟨W, hW⟩ : ∃ W, W = w.drewN nq := ⟨_, rfl⟩
      rw [← hW]
      have HFW := Lib.hid (show Fr [] w W by rw [hW]; exact (Fr.refl [] w).drewN nq)
      clear hW
      go_wp2_with fail
      go_ret
      refine ⟨?_, HFW.out⟩
      rw [HSV.out, soundV, decide_eq_false h2]
      simp
  · have h1i : (1 : Int) < (st : Int) := by omega
    go_enter Tryd.func41, Tryd.ntmps41
    go_upto_region 2 with fail
    go_quiet (fail)
    obtain ⟨W, hW⟩ : ∃ W, W = w.drewN nq := ⟨_, rfl⟩
    rw [← hW]
    have HFW := Lib.hid (show Fr [] w W by rw [hW]; exact (Fr.refl [] w).drewN nq)
    clear hW
    go_wp2_with fail
    go_ret
    refine ⟨?_, HFW.out⟩
    rw [HSV.out, soundV, decide_eq_false h1]
    rfl
end Go.Proofs.YtkcipbjikimlfaaDoor
