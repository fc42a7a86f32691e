/- Frames: the walk of FrameSplits. -/
import Derived.Test.YtkgfdcagninphaaDoorFrR
namespace Go.Proofs.YtkgfdcagninphaaDoor
open Go.RowKit
attribute [local go_sem ↓] Go.wp_at_zero Go.wp_at_succ
set_option maxRecDepth 100000 in
set_option maxHeartbeats 1600000 in
theorem frameSplits_walk (a : Option Addr) (c : Nat) (L : List UInt8) (w : World) (hl : L.length ≤ 39582418590000) (hc : L.length ≤ c) (hno : a = none → c = 0) (hb : Bytes w a L) (hn : Nib w) :
    Calls Tryd.prog 5 #[.slice a L.length c] w fun e w' => e = .returned (.bool true) ∧ Fr [] w w' := by
  have HN := Lib.hid hn
  have HNO := Lib.hid hno
  have HB := Lib.hid hb
  have HC := Lib.hid hc
  clear hn hno hb hc
  go_enter Tryd.func5, Tryd.ntmps5
  go_wp2_with fail
  refine (speaks19 w HN.out).mono ?_
  rintro e w1 ⟨rfl, hf1⟩
  have HF1 := Lib.hid hf1
  clear hf1
  go_wp2_with fail
  refine (clone_any a c L w1 (by omega) HNO.out (HB.out.keep HF1.out)).mono ?_
  rintro e w2 ⟨v, rfl, hv⟩
  have hcap := hv.got.1
  obtain ⟨g, cap, rfl, _, _, hby, hf2⟩ := hv.bytes
  have hcp := (own_by hcap).2
  have HF2 := Lib.hid (HF1.out.trans hf2)
  have HBY := Lib.hid hby
  clear hv hf2 hby hcap
  go_wp2_with fail
  refine (Split_any (some ⟨g, 0, none⟩) cap L w2 hl hcp (fun h => by cases h) HBY.out (nib_keep HN.out HF2.out)).mono ?_
  rintro e w3 ⟨v3, X, rfl, hX, hXm, hf3⟩
  obtain ⟨E, hE⟩ : ∃ E, E = (spl L).2 := ⟨_, rfl⟩
  have HE := Lib.hid hE
  rw [← hE]
  have HX := Lib.hid hX
  have HXM := Lib.hid hXm
  have HF3 := Lib.hid (HF2.out.trans hf3)
  have HBY3 := Lib.hid (HBY.out.keep hf3)
  clear hX hXm hf3 hE
  go_wp2_with fail
  refine (refSplit_any a c L w3 hl HC.out HNO.out (HB.out.keep HF3.out)).mono ?_
  rintro e w4 ⟨v4, Y, rfl, hY, hYm, hf4⟩
  rw [← HE.out]
  have hXL : X.length ≤ 4398046511000 := by
    have h1 := congrArg List.length HXM.out
    rw [List.length_map] at h1
    have h2 := run_end L
    have h3 : (spl L).1.length ≤ (run L).1.length := by
      unfold spl
      split
      · split
        · simp
        · exact Nat.le_refl _
      · simp
    omega
  have HS := Lib.hid (SameAll_any w4 (HX.out.keep hf4) hY (by rw [HXM.out, hYm]) hXL)
  have HF4 := Lib.hid (HF3.out.trans hf4)
  have HBY4 := Lib.hid (HBY3.out.keep hf4)
  have hee : (E == E) = true := beq_self_eq_true _
  obtain ⟨va, vc, rfl⟩ := own_sl HX.out.row
  obtain ⟨ua, uc, rfl⟩ := own_sl hY.row
  clear hY hYm hf4 hXL
  go_wp2_with fail
  refine HS.out.mono ?_
  rintro e w5 ⟨rfl, hf5⟩
  have HF5 := Lib.hid (HF4.out.trans hf5)
  have hs := same_any (some ⟨g, 0, none⟩) a cap c L L w5 (fun h => by cases h) HNO.out (HBY4.out.keep hf5) (HB.out.keep HF5.out)
  rw [beq_self_eq_true] at hs
  have HS5 := Lib.hid hs
  clear hs hf5
  go_wp2_with fail
  refine HS5.out.mono ?_
  rintro e w6 ⟨rfl, rfl⟩
  go_wp2
  go_ret
  exact ⟨rfl, HF5.out⟩
end Go.Proofs.YtkgfdcagninphaaDoor
