/- Frames: the iterator of All, for whatever loop goes over it. -/
import Derived.Test.YtkgfdcagninphaaDoorFrD
import Derived.Test.YtkgfdcagninphaaDoorRange
import Derived.Test.YtkgfdcagninphaaDoorSpoil
namespace Go.Proofs.YtkgfdcagninphaaDoor
open Go.RowKit Go.Shelf

theorem erF_of {L r : List UInt8} {F : List (UInt8 × List UInt8)} {p : Nat} (h : run L = (F ++ (run r).1, p + (run r).2.1, (run r).2.2)) (hp : p < L.length) (ho : one r = .cut) : (run L).1 = F ∧ erF L = 10 := by
  rw [run_cut ho] at h
  unfold erF
  rw [h]
  simp only [List.append_nil, Nat.add_zero, if_true, true_and]
  rw [if_pos hp]
theorem erF_long {L r : List UInt8} {F : List (UInt8 × List UInt8)} {p : Nat} (h : run L = (F ++ (run r).1, p + (run r).2.1, (run r).2.2)) (ho : one r = .long) : (run L).1 = F ∧ erF L = 1 := by
  rw [run_long ho] at h
  unfold erF
  rw [h]
  simp
theorem erF_bad {L r : List UInt8} {F : List (UInt8 × List UInt8)} {p : Nat} (h : run L = (F ++ (run r).1, p + (run r).2.1, (run r).2.2)) (ho : one r = .bad) : (run L).1 = F ∧ erF L = 91 := by
  rw [run_bad ho] at h
  unfold erF
  rw [h]
  simp
theorem erF_end {L r : List UInt8} {F : List (UInt8 × List UInt8)} {p : Nat} (h : run L = (F ++ (run r).1, p + (run r).2.1, (run r).2.2)) (hr : r = []) (hp : p = L.length) : (run L).1 = F ∧ erF L = 0 := by
  rw [hr, run_cut one_nil] at h
  unfold erF
  rw [h]
  simp [hp]
/-- what is known behind the iterator -/
def ItPost (L : List UInt8) (J : List (UInt8 × List UInt8) → World → Prop) (Je Jx : World → Prop) (W' : World) : Prop :=
  (erF L = 0 ∧ ∃ A, J (run L).1 A ∧ Fr [] A W') ∨ (erF L ≠ 0 ∧ Je W') ∨ Jx W'
/-- where the rest stands -/
def RestAt (ad rad : Option Addr) (L r : List UInt8) (p : Nat) : Prop := r = L.drop p ∧ p ≤ L.length ∧ (r = [] ∨ ∃ ab ao, ad = some ⟨ab, ao, none⟩ ∧ rad = some ⟨ab, ao + p, none⟩)
theorem RestAt.bytes {ad rad : Option Addr} {L r : List UInt8} {p : Nat} {W : World} (h : RestAt ad rad L r p) (hb : Bytes W ad L) : Bytes W rad r := by
  obtain ⟨rfl, hp, h | ⟨ab, ao, rfl, rfl⟩⟩ := h
  · rw [h]; exact Bytes.nil _ _
  · have := hb.sub p (L.length - p) (by omega)
    rwa [List.take_of_length_le (by rw [List.length_drop]; omega)] at this
set_option maxRecDepth 100000 in
set_option maxHeartbeats 3200000 in
theorem All1_in (n l Bn : Nat) (ad : Option Addr) (c : Nat) (L : List UInt8) (W : World) (J : List (UInt8 × List UInt8) → World → Prop) (Je Jx : World → Prop)
    (hl : L.length ≤ 140737488351300) (hc : L.length ≤ c) (hBn : W.cell? ⟨Bn, 0, none⟩ = some (.slice ad L.length c)) (hb : Bytes W ad L) (hn : Nib W) (h0 : J [] W)
    (hY : ∀ F t d a' c' A W1, J F A → Fr [] A W1 → W1.ownsRow A.heap.size 5 1 (.slice a' d.length c') d.length (d.map B8) → (∃ F', (run L).1 = F ++ (t, d) :: F') →
      YieldAt Fence.wide (n - 1) Tryd.prog l #[.agg #[.int .i64 (I8 t), .slice a' d.length c'], .int .i64 0] W1 (fun e W' => (e = .returned (.bool true) ∧ J (F ++ [(t, d)]) W' ∧ Bytes W' ad L ∧ Nib W') ∨ (e = .returned (.bool false) ∧ Jx W')))
    (hE : ∀ A W1 a' c', J (run L).1 A → Fr [] A W1 → erF L ≠ 0 → (a' = none → c' = 0) →
      YieldAt Fence.wide (n - 1) Tryd.prog l #[.agg #[.int .i64 0, .slice a' 0 c'], .int .i64 (erF L)] W1 (fun e W' => (∃ b, e = .returned (.bool b)) ∧ Je W')) :
    CallsIn Fence.wide n Tryd.prog 35 #[.func (.yield l) #[] #[], .pointer (some ⟨Bn, 0, none⟩)] W fun e W' => (∃ v, e = .returned v) ∧ ItPost L J Je Jx W' := by
  have HB := Lib.hid hb
  have HN := Lib.hid hn
  have HY := Lib.hid hY
  have HE := Lib.hid hE
  have H0 := Lib.hid h0
  have HC := Lib.hid hc
  have HL := Lib.hid hl
  clear hb hn hY hE h0 hc hl
  refine callsIn_of_wp Tryd.func35 rfl trivial ?_ rfl
  simp only [Tryd.ntmps35, List.size_toArray, List.length_cons, List.length_nil, Nat.reduceAdd, Nat.reduceSub, Array.replicate_succ, Array.replicate_zero, List.push_toArray, List.append_toArray, List.nil_append, List.cons_append]
  gi_wp2
  gi_loopw [3] (fun q wr => ∃ (F : List (UInt8 × List UInt8)) (r : List UInt8) (p rc : Nat) (rad : Option Addr), q = .slice rad r.length rc ∧ r.length ≤ rc ∧ RestAt ad rad L r p ∧ run L = (F ++ (run r).1, p + (run r).2.1, (run r).2.2) ∧ Bytes wr ad L ∧ Nib wr ∧ ∃ A, J F A ∧ Fr [] A wr)
    (fun q _ => (match q with | .slice _ k _ => k | _ => 0))
  case atStart =>
    refine ⟨[], L, 0, c, ad, rfl, HC.out, ⟨rfl, Nat.zero_le _, ?_⟩, by simp, HB.out, HN.out, W, H0.out, Fr.refl _ _⟩
    rcases HB.out with h | ⟨ab, ao, h, _⟩
    · exact .inl h
    · exact .inr ⟨ab, ao, h, by rw [h]; rfl⟩
  case round =>
    obtain ⟨F, r, p, rc, rad, rfl, hrc, hra, hrun, hby, hnb, A, hJ, hfr⟩ := hrel
    by_cases hpos : 0 < r.length
    · have HR := Lib.hid hra
      have HRUN := Lib.hid hrun
      have HBY := Lib.hid hby
      have HNB := Lib.hid hnb
      have HJ := Lib.hid hJ
      have HFR := Lib.hid hfr
      have HRL := Lib.hid (show r.length ≤ 140737488351300 by rw [hra.1, List.length_drop]; have := HL.out; omega)
      have HPL := Lib.hid (show p < L.length by have := hra.1; rw [this, List.length_drop] at hpos; omega)
      have hposi : (0 : Int) < (r.length : Int) := by omega
      clear hra hrun hby hnb hJ hfr
      gi_wp2_with fail
      refine ⟨trivial, fun h => (by cases h), ?_⟩
      refine (callsIn_wide.2 (one_any rad rc r wr HRL.out hrc (HR.out.bytes HBY.out) HNB.out)).mono ?_
      rintro e w1 ⟨x, rfl, a', c', rfl, hown, hf⟩
      have HF := Lib.hid hf
      have HOWN := Lib.hid hown
      clear hf hown
      cases ho : one r with
      | cut =>
        obtain ⟨h1, h2⟩ := erF_of HRUN.out HPL.out ho
        have hown := HOWN.out
        rw [ho] at hown
        obtain ⟨fn, tmps, assign, body, hy, hR⟩ := HE.out A (w1.alloc (.cells #[.int .i64 0, .slice a' 0 c'] 25)) a' c' (by rw [h1]; exact HJ.out) ((HFR.out.trans HF.out).alloc _) (by rw [h2]; decide) (spl_none hown)
        rw [h2] at hy
        have HRD := Lib.hid hR
        have H2 := Lib.hid (show erF L ≠ 0 by rw [h2]; decide)
        clear h1 h2 hown hR
        simp only [oT, oD, oN, oE, List.length_nil]
        gi_wp2_with fail
        refine ⟨fun h => (by cases h), ?_⟩
        refine HRD.out.mono ?_
        rintro e W2 ⟨⟨b, rfl⟩, hje⟩
        have HJE := Lib.hid hje
        clear hje
        cases b <;>
          (gi_wp2
           refine bodyPost_ret (results_none rfl _ _ _) rfl ?_
           exact ⟨⟨_, rfl⟩, .inr (.inl ⟨H2.out, HJE.out⟩)⟩)
      | long =>
        obtain ⟨h1, h2⟩ := erF_long HRUN.out ho
        have hown := HOWN.out
        rw [ho] at hown
        obtain ⟨fn, tmps, assign, body, hy, hR⟩ := HE.out A (w1.alloc (.cells #[.int .i64 0, .slice a' 0 c'] 25)) a' c' (by rw [h1]; exact HJ.out) ((HFR.out.trans HF.out).alloc _) (by rw [h2]; decide) (spl_none hown)
        rw [h2] at hy
        have HRD := Lib.hid hR
        have H2 := Lib.hid (show erF L ≠ 0 by rw [h2]; decide)
        clear h1 h2 hown hR
        simp only [oT, oD, oN, oE, List.length_nil]
        gi_wp2_with fail
        refine ⟨fun h => (by cases h), ?_⟩
        refine HRD.out.mono ?_
        rintro e W2 ⟨⟨b, rfl⟩, hje⟩
        have HJE := Lib.hid hje
        clear hje
        cases b <;>
          (gi_wp2
           refine bodyPost_ret (results_none rfl _ _ _) rfl ?_
           exact ⟨⟨_, rfl⟩, .inr (.inl ⟨H2.out, HJE.out⟩)⟩)
      | bad =>
        obtain ⟨h1, h2⟩ := erF_bad HRUN.out ho
        have hown := HOWN.out
        rw [ho] at hown
        obtain ⟨fn, tmps, assign, body, hy, hR⟩ := HE.out A (w1.alloc (.cells #[.int .i64 0, .slice a' 0 c'] 25)) a' c' (by rw [h1]; exact HJ.out) ((HFR.out.trans HF.out).alloc _) (by rw [h2]; decide) (spl_none hown)
        rw [h2] at hy
        have HRD := Lib.hid hR
        have H2 := Lib.hid (show erF L ≠ 0 by rw [h2]; decide)
        clear h1 h2 hown hR
        simp only [oT, oD, oN, oE, List.length_nil]
        gi_wp2_with fail
        refine ⟨fun h => (by cases h), ?_⟩
        refine HRD.out.mono ?_
        rintro e W2 ⟨⟨b, rfl⟩, hje⟩
        have HJE := Lib.hid hje
        clear hje
        cases b <;>
          (gi_wp2
           refine bodyPost_ret (results_none rfl _ _ _) rfl ?_
           exact ⟨⟨_, rfl⟩, .inr (.inl ⟨H2.out, HJE.out⟩)⟩)
      | ok t d =>
        have hown := HOWN.out
        rw [ho] at hown
        obtain ⟨-, -, -, hd1, hd2, -⟩ := one_ok_inv ho
        have HST := Lib.hid (run_step HRUN.out ho)
        have HRO := Lib.hid (show ∃ F', (run L).1 = F ++ (t, d) :: F' from ⟨(run (r.drop (d.length + 9))).1, by rw [HRUN.out, run_ok ho]⟩)
        simp only [oT, oD, oN, oE] at hown ⊢
        obtain ⟨k, hk⟩ : ∃ k, k = d.length + 9 := ⟨_, rfl⟩
        rw [← hk] at HST ⊢
        obtain ⟨fn, tmps, assign, body, hy, hR⟩ := HY.out F t d a' c' A (w1.alloc (.cells #[.int .i64 (I8 t), .slice a' d.length c'] 25)) HJ.out ((HFR.out.trans HF.out).alloc _) (own_fr (own_base hown HFR.out.size) ((Fr.refl [] w1).alloc _) (by simp)) HRO.out
        have HRD := Lib.hid hR
        have hk0 : ((k : Int) == 0) = false := by rw [beq_eq_false_iff_ne]; omega
        have hkr : k ≤ r.length := by omega
        have hki : (0 : Int) ≤ (k : Int) := by omega
        have hkc : (k : Int) ≤ (r.length : Int) := by omega
        have hk9 : 9 ≤ k := by omega
        clear hown hR ho hd1 hd2 hk
        gi_wp2_with fail
        refine ⟨fun h => (by cases h), ?_⟩
        refine HRD.out.mono ?_
        rintro e W2 (⟨rfl, hj2, hb2, hn2⟩ | ⟨rfl, hjx⟩)
        · have HJ2 := Lib.hid hj2
          have HB2 := Lib.hid hb2
          have HN2 := Lib.hid hn2
          clear hj2 hb2 hn2
          obtain ⟨ab, ao, hab, hrab⟩ : ∃ ab ao, ad = some ⟨ab, ao, none⟩ ∧ rad = some ⟨ab, ao + p, none⟩ := by
            rcases HR.out.2.2 with h | h
            · rw [h] at hpos; simp at hpos
            · exact h
          have HR1 := Lib.hid HR.out.1
          subst hab
          subst hrab
          clear HR
          have hpk : p + k ≤ L.length := by
            have := HR1.out
            have h4 := congrArg List.length this
            rw [List.length_drop] at h4
            have := HPL.out
            omega
          have HDR := Lib.hid (show r.drop k = L.drop (p + k) by rw [HR1.out, List.drop_drop])
          have HDL := Lib.hid (show (r.drop k).length = r.length - k from List.length_drop)
          have HTN := Lib.hid (show ((r.length : Int) - (k : Int)).toNat = r.length - k by omega)
          by_cases hcn : rc = k
          · have hr0 : Hid (r.drop k = []) := Lib.hid (List.drop_eq_nil_iff.2 (by omega))
            gi_wp2
            go_roundw
            case rel =>
              refine ⟨F ++ [(t, d)], r.drop k, p + k, 0, some ⟨ab, ao + p, none⟩, by rw [HDL.out], by rw [hr0.out]; exact Nat.le_refl _, ⟨HDR.out, hpk, .inl hr0.out⟩, HST.out, HB2.out, HN2.out, W2, HJ2.out, Fr.refl _ _⟩
            case measure => simp only [HDL.out]; omega
          · gi_wp2
            go_roundw
            case rel =>
              refine ⟨F ++ [(t, d)], r.drop k, p + k, rc - k, some ⟨ab, ao + p + k, none⟩, by rw [HDL.out], by rw [HDL.out]; omega, ⟨HDR.out, hpk, .inr ⟨ab, ao, rfl, by rw [Nat.add_assoc]⟩⟩, HST.out, HB2.out, HN2.out, W2, HJ2.out, Fr.refl _ _⟩
            case measure => simp only [HDL.out]; omega
        · have HJX := Lib.hid hjx
          clear hjx
          gi_wp2
          refine bodyPost_ret (results_none rfl _ _ _) rfl ?_
          exact ⟨⟨_, rfl⟩, .inr (.inr HJX.out)⟩
    · have hr0 : r = [] := List.eq_nil_of_length_eq_zero (by omega)
      have HR := Lib.hid hra
      obtain ⟨h1, h2⟩ := erF_end hrun hr0 (by have := hra.1; have h3 := hra.2.1; rw [hr0] at this; have h4 := congrArg List.length this; rw [List.length_drop] at h4; simp at h4; omega)
      have HJ := Lib.hid (show J (run L).1 A by rw [h1]; exact hJ)
      have HFR := Lib.hid hfr
      have H2 := Lib.hid h2
      have hnp : ¬ (0 : Int) < (r.length : Int) := by omega
      clear hra hrun hby hnb hJ hfr h1 h2 hr0
      gi_wp2
      go_end0
      exact ⟨⟨_, rfl⟩, .inl ⟨H2.out, A, HJ.out, HFR.out⟩⟩
end Go.Proofs.YtkgfdcagninphaaDoor
