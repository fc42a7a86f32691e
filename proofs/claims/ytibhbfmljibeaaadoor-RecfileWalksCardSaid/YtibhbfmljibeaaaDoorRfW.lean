/- Record files: RecfileOpens. -/
import Derived.Test.YtibhbfmljibeaaaDoorRfV
namespace Go.Proofs.YtibhbfmljibeaaaDoor
open Go.RowKit
attribute [local go_sem ↓] Go.wp_at_zero Go.wp_at_succ
theorem openB_bytes {b : List UInt8} {kd vr sz : Nat} {R : Recs} (h : openB b = .ok (kd, vr, sz, R)) : fileB kd vr sz R = b := (openB_inv h).1
set_option maxRecDepth 100000 in
set_option maxHeartbeats 3200000 in
theorem recfileOpens_walk (a : Option Addr) (c : Nat) (l : List UInt8) (w : World) (hl : l.length ≤ 140737488351300) (hc : l.length ≤ c) (hno : a = none → c = 0) (hb : Bytes w a l) (hn : Nib w) :
    Calls Tryd.prog 8 #[.slice a l.length c] w fun e w' => e = .returned (.bool true) ∧ Fr [] w w' := by
  have HN := Lib.hid hn
  have HB := Lib.hid hb
  have HNO := Lib.hid hno
  have HC := Lib.hid hc
  clear hn hb hno hc
  go_enter Tryd.func8, Tryd.ntmps8
  go_wp2_with fail
  refine (speaks09 w HN.out).mono ?_
  rintro e w1 ⟨rfl, hf1⟩
  have HF1 := Lib.hid hf1
  clear hf1
  go_wp2_with fail
  refine (clone_any a c l w1 hl HNO.out (HB.out.keep HF1.out)).mono ?_
  rintro e w2 ⟨v, rfl, hv⟩
  have ho2 := hv.got.1
  obtain ⟨g, cap, rfl, hg, hg2, hb2, hf2⟩ := hv.bytes
  have HCAP := Lib.hid hv.cap
  have HB2 := Lib.hid hb2
  have HO2 : Hid (OwnB w2 w1.heap.size (.slice (some ⟨g, 0, none⟩) l.length cap) l.length) := Lib.hid (OwnB.of ho2)
  have HG := Lib.hid (show w.heap.size ≤ g from Nat.le_trans HF1.out.size hg)
  have HG2 := Lib.hid hg2
  have HF2 := Lib.hid (HF1.out.trans hf2)
  have HW1 := Lib.hid (show w1.heap.size ≤ w2.heap.size from hf2.size)
  have HSPO : Hid (∀ W, Fr [] w2 W → Calls Tryd.prog 28 #[.slice (some ⟨g, 0, none⟩) l.length cap] W fun e w' => (∃ v, e = .returned v) ∧ Fr [g] W w') := Lib.hid fun W hW =>
    spoilF_any W w1.heap.size (some ⟨g, 0, none⟩) l.length cap (HO2.out.keep hW (by simp)) hl (by have := hW.size; have := HW1.out; omega)
  clear hv hb2 hf2 ho2 hg hg2
  go_wp2_with fail
  refine (Open_F (some ⟨g, 0, none⟩) cap l w2 hl HCAP.out HB2.out (nib_keep HN.out HF2.out)).mono ?_
  rintro e w3 (⟨E, hE, rfl, hf3⟩ | ⟨kd, vr, sz, R, p, bs, hE, rfl, hr3, hf3⟩)
  · have HE := Lib.hid hE
    have HF23 := Lib.hid hf3
    have HF3 := Lib.hid (HF2.out.trans hf3)
    have HB3 := Lib.hid (HB2.out.keep hf3)
    have hEi : (E == E) = true := beq_self_eq_true _
    clear hf3 hE
    go_wp2_with fail
    refine (Open9 a c l w3 hl HC.out (HB.out.keep HF3.out)).mono ?_
    rintro e w4 (⟨E', hE', rfl, hf4⟩ | ⟨kd, vr, sz, R, q, cs, hE', -, -, -⟩)
    · obtain rfl : E' = E := by rw [HE.out] at hE'; cases hE'; rfl
      have HF4 := Lib.hid (HF3.out.trans hf4)
      have HF24 := Lib.hid (HF23.out.trans hf4)
      have HSM := Lib.hid (same_any (some ⟨g, 0, none⟩) a cap c l l w4 (fun h => by cases h) HNO.out (HB3.out.keep hf4) (HB.out.keep HF4.out))
      rw [beq_self_eq_true] at HSM
      clear hf4 hE'
      go_wp2_with fail
      refine HSM.out.mono ?_
      rintro e w' ⟨rfl, rfl⟩
      go_wp2_with fail
      refine (HSPO.out w4 HF24.out).mono ?_
      rintro e w5 ⟨⟨v5, rfl⟩, hf5⟩
      have HF5 := Lib.hid (HF4.out.next hf5 (by intro i hi hlt; simp at hi; have := HG.out; omega))
      clear hf5
      go_wp2
      go_ret
      exact ⟨rfl, HF5.out⟩
    · exfalso
      rw [HE.out] at hE'
      cases hE'
  · have HE := Lib.hid hE
    have HF23 := Lib.hid hf3
    have HF3 := Lib.hid (HF2.out.trans hf3)
    have HB3 := Lib.hid (HB2.out.keep hf3)
    have HR3 := Lib.hid hr3
    have HFB := Lib.hid (openB_bytes hE)
    clear hf3 hE hr3
    go_wp2_with fail
    refine (Open9 a c l w3 hl HC.out (HB.out.keep HF3.out)).mono ?_
    rintro e w4 (⟨E', hE', -, -⟩ | ⟨kd', vr', sz', R', q, cs, hE', rfl, hm4, hf4⟩)
    · exfalso
      rw [HE.out] at hE'
      cases hE'
    · have HEQ : kd' = kd ∧ vr' = vr ∧ sz' = sz ∧ R' = R := by
        rw [HE.out] at hE'
        simpa [eq_comm] using hE'
      obtain ⟨rfl, rfl, rfl, rfl⟩ := HEQ
      have HF4 := Lib.hid (HF3.out.trans hf4)
      have HF24 := Lib.hid (HF23.out.trans hf4)
      have HR4 := Lib.hid (HR3.out.keep hf4)
      have HM4 := Lib.hid hm4
      have HSM := Lib.hid (same_any (some ⟨g, 0, none⟩) a cap c l l w4 (fun h => by cases h) HNO.out (HB3.out.keep hf4) (HB.out.keep HF4.out))
      rw [beq_self_eq_true] at HSM
      have HW23 := Lib.hid HF23.out.size
      clear hf4 hE' hm4
      go_wp2_with fail
      refine HSM.out.mono ?_
      rintro e w' ⟨rfl, rfl⟩
      go_wp2_with fail
      refine (HSPO.out w4 HF24.out).mono ?_
      rintro e w5 ⟨⟨v5, rfl⟩, hf5⟩
      have HF5 := Lib.hid (HF4.out.next hf5 (by intro i hi hlt; simp at hi; have := HG.out; omega))
      have HR5 := Lib.hid (HR4.out.fr hf5 (by intro i hi hm; simp at hm; subst hm; have := (HR4.out.lt i hi).1; have := HG2.out; omega))
      have HM5 := Lib.hid (HM4.out.fr hf5 (by intro i hi hm; simp at hm; subst hm; have := (HM4.out.lt i hi).1; have := HG2.out; have := HW23.out; omega))
      clear hf5 HR4 HM4 HSPO HSM
      go_wp2_with fail
      refine (alike_any _ _ bs cs w5 p q _ HR5.out HM5.out).mono ?_
      rintro e w6 ⟨rfl, hf6⟩
      have HR6 := Lib.hid (HR5.out.keep hf6)
      have HF6 := Lib.hid (HF5.out.trans hf6)
      clear hf6
      have HBY := Lib.hid (Bytes_F _ bs w6 p _ HR6.out (nib_keep HN.out HF6.out))
      simp only at HBY
      rw [HFB.out] at HBY
      go_wp2_with fail
      refine HBY.out.mono ?_
      rintro e w7 ⟨v, rfl, hv⟩
      obtain ⟨g7, c7, rfl, -, -, hb7, hf7⟩ := hv.bytes
      have HF7 := Lib.hid (HF6.out.trans hf7)
      have HSM := Lib.hid (same_any (some ⟨g7, 0, none⟩) a c7 c l l w7 (fun h => by cases h) HNO.out hb7 (HB.out.keep HF7.out))
      rw [beq_self_eq_true] at HSM
      clear hv hb7 hf7 HBY
      go_wp2_with fail
      refine HSM.out.mono ?_
      rintro e w' ⟨rfl, rfl⟩
      go_wp2
      go_ret
      exact ⟨rfl, HF7.out⟩
end Go.Proofs.YtibhbfmljibeaaaDoor
