/- Record files: the plain law of RecfileLowest. No program. -/
import Derived.Test.YtibhbfmljibeaaaDoorRfE
import Derived.Test.YtibhbfmljibeaaaDoorRfL
import Derived.Test.YtibhbfmljibeaaaDoorRecC
namespace Go.Proofs.YtibhbfmljibeaaaDoor
open Go.RowKit

theorem lowest_full : ∀ {R : Recs}, R.length ≤ lowest R → liveN R = R.length
  | [], _ => rfl
  | none :: R, h => by simp [lowest] at h
  | some d :: R, h => by
    have := lowest_full (R := R) (by simpa [lowest] using h)
    unfold liveN at this ⊢
    rw [List.countP_cons, this]
    rfl
theorem used_get {R : Recs} {k : Nat} (h : (R.getD k none).isSome = true) : ∃ d, R[k]? = some (some d) := by
  have := usedR_lt ((usedR_nat R k).trans h)
  rw [Int.toNat_natCast] at this
  exact this.2.2
/-- where Alloc is refused all are in use -/
theorem al_full {s : RFS} (h : s.Ok) (he : alE s ≠ 0) : alE s = 5 ∧ alI s = 0 ∧ liveN s.R = 65536 := by
  unfold alE at he ⊢
  unfold alI
  by_cases h1 : 65536 ≤ lowest s.R
  · rw [if_pos h1, if_pos h1]
    refine ⟨rfl, rfl, ?_⟩
    have h2 := h.len
    have h3 := lowest_le s.R
    rw [lowest_full (by omega)]
    omega
  · rw [if_neg h1] at he; exact absurd rfl he
structure AlOk (s : RFS) (k : Nat) (t : RFS) : Prop where
  id : alI s = k
  lt : k < 65536
  st : alS s = t
  used : ∀ i, i ≤ k → usedR t.R i = true
  live : liveN t.R = liveN s.R + 1
theorem al_ok {s : RFS} (_h : s.Ok) (he : alE s = 0) : ∃ k t, AlOk s k t := by
  have h1 : ¬ 65536 ≤ lowest s.R := by
    intro h1
    unfold alE at he
    rw [if_pos h1] at he
    cases he
  refine ⟨lowest s.R, alS s, if_neg h1, by omega, rfl, ?_, ?_⟩
  · intro i hi
    unfold alS
    rw [if_neg h1]
    show usedR (putR s.R (lowest s.R) (zs (s.sz - 1))) i = true
    rw [usedR_nat, putR_get]
    by_cases h2 : i = lowest s.R
    · rw [if_pos h2]; rfl
    · rw [if_neg h2]
      obtain ⟨d, hd⟩ := lowest_used s.R i (by omega)
      rw [List.getD_eq_getElem?_getD, hd]; rfl
  · unfold alS
    rw [if_neg h1]
    show liveN (putR s.R (lowest s.R) (zs (s.sz - 1))) = _
    have := liveN_put s.R (lowest s.R) (zs (s.sz - 1))
    rw [lowest_free] at this
    simpa using this
theorem freS_live {s : RFS} {k : Nat} (h : usedR s.R k = true) : freE s k = 0 ∧ liveN (freS s k).R + 1 = liveN s.R := by
  refine ⟨if_pos h, ?_⟩
  unfold freS
  rw [if_pos h]
  have := liveN_free s.R k (by rw [← usedR_nat]; exact h)
  simpa using this
end Go.Proofs.YtibhbfmljibeaaaDoor

/- Record files: RecfileLowest. -/
namespace Go.Proofs.YtibhbfmljibeaaaDoor
open Go.RowKit
attribute [local go_sem ↓] Go.wp_at_zero Go.wp_at_succ
/-- a file of the call's own turns: of what was there nothing does -/
theorem RF.clean {B p : Nat} {bs : List Nat} {w0 w w' : World} {s : RFS} (h : RF B bs w p s) (hB : w0.heap.size ≤ B) (hf : Fr [] w0 w) (hs : Fr bs w w') : Fr [] w0 w' :=
  hf.next hs fun i hi hlt => by have := (h.lt i hi).1; omega
set_option maxRecDepth 100000 in
set_option maxHeartbeats 3200000 in
theorem recfileLowest_walk (a : Option Addr) (c : Nat) (l : List UInt8) (fa : Option Addr) (fc : Nat) (fl : List Int) (w : World) (hl : l.length ≤ 140737488351300) (hno : a = none → c = 0) (hb : Bytes w a l) (hfl : fl.length ≤ 140737488351300) (hfb : Ints w fa fl) (hn : Nib w) :
    Calls Tryd.prog 5 #[.slice a l.length c, .slice fa fl.length fc] w fun e w' => e = .returned (.bool true) ∧ Fr [] w w' := by
  have HN := Lib.hid hn
  have HB := Lib.hid hb
  have HNO := Lib.hid hno
  have HFB := Lib.hid hfb
  clear hn hb hno hfb
  go_enter Tryd.func5, Tryd.ntmps5
  go_wp2_with fail
  refine (speaks09 w HN.out).mono ?_
  rintro e w1 ⟨rfl, hf1⟩
  have HF1 := Lib.hid hf1
  clear hf1
  go_wp2_with fail
  refine (clone_any a c l w1 hl HNO.out (HB.out.keep HF1.out)).mono ?_
  rintro e w2 ⟨v, rfl, hv⟩
  obtain ⟨g, cap, rfl, -, -, hb2, hf2⟩ := hv.bytes
  have HCAP := Lib.hid hv.cap
  have HB2 := Lib.hid hb2
  have HF2 := Lib.hid (HF1.out.trans hf2)
  clear hv hb2 hf2
  go_wp2_with fail
  refine (Open_F (some ⟨g, 0, none⟩) cap l w2 hl HCAP.out HB2.out (nib_keep HN.out HF2.out)).mono ?_
  rintro e w3 (⟨E, -, rfl, hf3⟩ | ⟨kd, vr, sz, R, p, bs, -, rfl, hr3, hf3⟩)
  · have HF3 := Lib.hid (HF2.out.trans hf3)
    clear hf3
    go_wp2
    go_ret
    exact ⟨rfl, HF3.out⟩
  have HF3 := Lib.hid (HF2.out.trans hf3)
  have HR3 := Lib.hid hr3
  have HBS := Lib.hid HF2.out.size
  clear hf3 hr3 HCAP HB2 HF1
  go_wp2_with fail
  go_loopw [27] (fun i wr => ∃ (k : Nat) (bs : List Nat) (s : RFS), k ≤ fl.length ∧ i = .int .i64 k ∧ RF w2.heap.size bs wr p s ∧ Fr [] w wr) (fun i _ => fl.length - (intOf i).toNat)
  case atStart => exact ⟨0, bs, _, by omega, rfl, HR3.out, HF3.out⟩
  case round =>
    obtain ⟨k, bs, s, hk, rfl, hr, hf⟩ := hrel
    have HR := Lib.hid hr
    have HF := Lib.hid hf
    clear hr hf
    by_cases hlt : k < fl.length
    · obtain ⟨b1, o1, rfl, h1⟩ := (HFB.out.keep HF.out).at (by omega)
      have d1 : wr.cell? ⟨b1, o1 + k, none⟩ = some (.int .i64 (fl.getD k 0)) := h1 k hlt
      clear h1
      generalize fl.getD k 0 = x at d1
      go_wp2_with fail
      refine (Free_F w2.heap.size bs wr p s x HR.out).mono ?_
      rintro e w4 ⟨rfl, bs4, hr4, hs4⟩
      have HR4 := Lib.hid hr4
      have HF4 := Lib.hid (HR.out.clean HBS.out HF.out hs4.1)
      clear hr4 hs4
      go_wp2
      go_roundw
      case rel => exact ⟨k + 1, bs4, _, by omega, by go_num, HR4.out, HF4.out⟩
      case measure => simp [intOf] <;> omega
    · go_wp2_with fail
      refine (Live_F w2.heap.size bs wr p s HR.out).mono ?_
      rintro e w' ⟨rfl, rfl⟩
      have hok := HR.out.ok
      have hll : liveN s.R ≤ 65536 := Nat.le_trans (liveN_le _) hok.len
      have HAL := Lib.hid (Alloc_F w2.heap.size bs wr p s HR.out)
      have HOK := Lib.hid hok
      clear hok
      by_cases he : alE s = 0
      · obtain ⟨t, T, hal⟩ := al_ok HOK.out he
        rw [he, hal.id, hal.st] at HAL
        have htl := hal.lt
        have HU := Lib.hid hal.used
        have HLV := Lib.hid hal.live
        clear hal
        go_wp2_with fail
        refine HAL.out.mono ?_
        rintro e w4 ⟨rfl, bs4, hr4, hs4⟩
        have HR4 := Lib.hid hr4
        have HF4 := Lib.hid (HR.out.clean HBS.out HF.out hs4.1)
        clear hr4 hs4 HAL
        obtain ⟨wo, hwo⟩ : ∃ wo : World, wo = wr := ⟨_, rfl⟩
        go_wp2_with fail
        go_loopw [12] (fun i wr => ∃ (k : Nat), k ≤ t ∧ i = .int .i64 k ∧ RF w2.heap.size bs4 wr p T ∧ Fr [] w wr) (fun i _ => t - (intOf i).toNat)
        case atStart => exact ⟨0, by omega, rfl, HR4.out, HF4.out⟩
        case round =>
          obtain ⟨k, hk, rfl, hr, hf⟩ := hrel
          have HR := Lib.hid hr
          have HF := Lib.hid hf
          clear hr hf
          by_cases hlt : k < t
          · have HG := Lib.hid (Get_F w2.heap.size bs4 wr p T k HR.out)
            rw [if_pos (HU.out k (by omega))] at HG
            go_wp2_with fail
            refine HG.out.mono ?_
            rintro e w5 ⟨v, rfl, hg⟩
            obtain ⟨a5, c5, rfl, -⟩ := hg.bytes
            have HR5 := Lib.hid (HR.out.keep hg.2)
            have HF5 := Lib.hid (HF.out.trans hg.2)
            clear hg HG
            go_wp2
            go_roundw
            case rel => exact ⟨k + 1, by omega, by go_num, HR5.out, HF5.out⟩
            case measure => simp [intOf] <;> omega
          · obtain rfl : k = t := by omega
            have HG := Lib.hid (Get_F w2.heap.size bs4 wr p T k HR.out)
            rw [if_pos (HU.out k (by omega))] at HG
            go_wp2_with fail
            refine HG.out.mono ?_
            rintro e w5 ⟨v, rfl, hg⟩
            obtain ⟨a5, c5, rfl, -⟩ := hg.bytes
            have HR5 := Lib.hid (HR.out.keep hg.2)
            have HF5 := Lib.hid (HF.out.trans hg.2)
            clear hg HG
            obtain ⟨q1, q2⟩ := freS_live (s := T) (k := k) (HU.out k (by omega))
            have HFR := Lib.hid (Free_F w2.heap.size bs4 w5 p T k HR5.out)
            rw [q1] at HFR
            have HLT : Hid (liveN T.R = liveN s.R + 1) := HLV
            have HL2 : Hid (liveN (freS T k).R = liveN s.R) := Lib.hid (by have := HLV.out; omega)
            have hsum : IntKind.i64.wrap ((liveN s.R : Int) + 1) = ((liveN s.R + 1 : Nat) : Int) := by rw [IntWalk.i64_in _ (by omega)]; rfl
            clear q1 q2
            go_wp2_with fail
            refine (Live_F w2.heap.size bs4 w5 p T HR5.out).mono ?_
            rintro e w' ⟨rfl, rfl⟩
            rw [HLT.out]
            go_wp2_with fail
            refine HFR.out.mono ?_
            rintro e w6 ⟨rfl, bs6, hr6, hs6⟩
            have HR6 := Lib.hid hr6
            have HF6 := Lib.hid (HR5.out.clean HBS.out HF5.out hs6.1)
            clear hr6 hs6 HFR
            go_wp2_with fail
            refine (Live_F w2.heap.size bs6 w6 p _ HR6.out).mono ?_
            rintro e w' ⟨rfl, rfl⟩
            rw [HL2.out]
            go_wp2
            go_ret
            exact ⟨rfl, HF6.out⟩
      · obtain ⟨h1, h2, h3⟩ := al_full HOK.out he
        rw [h1, h2] at HAL
        rw [h3]
        clear he h1 h2 h3
        go_wp2_with fail
        refine HAL.out.mono ?_
        rintro e w4 ⟨rfl, bs4, -, hs4⟩
        have HF4 := Lib.hid (HR.out.clean HBS.out HF.out hs4.1)
        clear hs4
        go_wp2
        go_ret
        exact ⟨rfl, HF4.out⟩
end Go.Proofs.YtibhbfmljibeaaaDoor
