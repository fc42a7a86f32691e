/- Blocks: BlocksLoads. -/
import Derived.Test.YtkcipbjikimlfaaDoorBlA
namespace Go.Proofs.YtkcipbjikimlfaaDoor
open Go.RowKit
attribute [local go_sem ↓] Go.wp_at_zero Go.wp_at_succ
attribute [local go_sem] Oper.semAt_some
set_option maxRecDepth 100000 in
set_option maxHeartbeats 3200000 in
theorem blocksLoads_walk (a : Option Addr) (c : Nat) (l : List UInt8) (first : Int) (w : World) (hl : l.length ≤ 140737488351300) (hc : l.length ≤ c) (hno : a = none → c = 0) (hb : Bytes w a l) (hn : Nib w) :
    Calls Tryd.prog 6 #[.slice a l.length c, .int .i64 first] w fun e w' => e = .returned (.bool true) ∧ Fr [] w w' := by
  have HN := Lib.hid hn
  have HB := Lib.hid hb
  have HNO := Lib.hid hno
  have HC := Lib.hid hc
  clear hn hb hno hc
  go_enter Tryd.func6, Tryd.ntmps6
  go_wp2_with fail
  refine (speaks10 w).mono ?_
  rintro e w1 ⟨rfl, hf1⟩
  have HF1 := Lib.hid hf1
  clear hf1
  go_wp2_with fail
  refine (open10 a c l w1 hl HC.out HNO.out (HB.out.keep HF1.out) (nib_keep HN.out HF1.out)).mono ?_
  rintro e w2 (⟨rfl, hf2⟩ | ⟨kd, vr, sz, R, p, q, bs, cs, hE, rfl, hbo, hf2⟩)
  · have HF2 := Lib.hid (HF1.out.trans hf2)
    clear hf2
    go_wp2_with fail
    go_ret
    exact ⟨rfl, HF2.out⟩
  · have HF2 := Lib.hid (HF1.out.trans hf2)
    have HFB := Lib.hid (openB_back hE)
    have HBO := Lib.hid hbo
    clear hf2 hE hbo
    obtain ⟨s, hs⟩ : ∃ s : RFS, s = ⟨kd, vr, sz, 0, R⟩ := ⟨_, rfl⟩
    have HFS : Hid (fileB s.kd s.vr s.sz s.R = l) := Lib.hid (by rw [hs]; exact HFB.out)
    rw [← hs] at HBO
    clear hs HFB
    have HW1 := Lib.hid (Walk_F _ bs w2 p s first HBO.out.f)
    have HW2 : Hid (∀ W, Fr [] w2 W → _) := Lib.hid (fun W (hW : Fr [] w2 W) => Walk9 _ cs W q s first (HBO.out.m.keep hW))
    have HL1 : Hid (∀ W, Fr [] w2 W → _) := Lib.hid (fun W (hW : Fr [] w2 W) => Load_F _ bs W p s first (HBO.out.f.keep hW))
    have HL2 : Hid (∀ W, Fr [] w2 W → _) := Lib.hid (fun W (hW : Fr [] w2 W) => Load9 _ cs W q s first (HBO.out.m.keep hW))
    have HLN := Lib.hid (walkE_lenM (first := first) HBO.out.f.ok)
    obtain ⟨L, hL⟩ : ∃ L, L = (walkE s first).1 := ⟨_, rfl⟩
    obtain ⟨E, hE⟩ : ∃ E, E = (walkE s first).2 := ⟨_, rfl⟩
    obtain ⟨D, hD⟩ : ∃ D, D = loadE s first := ⟨_, rfl⟩
    rw [← hE, ← hL] at HW1 HW2
    rw [← hE, ← hD] at HL1 HL2
    rw [← hL] at HLN
    clear hE hL hD
    have hEi : (E == E) = true := beq_self_eq_true _
    go_wp2_with fail
    refine HW1.out.mono ?_
    rintro e w3 ⟨v1, rfl, ho1, hf3⟩
    have HF3 := Lib.hid hf3
    have HO1 := Lib.hid ho1
    clear hf3 ho1
    go_wp2_with fail
    refine (HW2.out w3 HF3.out).mono ?_
    rintro e w4 ⟨v2, rfl, ho2, hf4⟩
    have HF4 := Lib.hid (HF3.out.trans hf4)
    have HO1 := Lib.hid (own_fr HO1.out hf4 (by simp))
    have HO2 := Lib.hid ho2
    clear hf4 ho2
    go_wp2_with fail
    refine (HL1.out w4 HF4.out).mono ?_
    rintro e w5 ⟨v3, rfl, hg3⟩
    obtain ⟨a3, c3, rfl⟩ := own_slR hg3.1
    obtain ⟨a3', c3', e3, hb3, -, -, hn3, -⟩ := Bytes.of_own hg3.1
    simp only [Value.slice.injEq] at e3
    obtain ⟨rfl, -, rfl⟩ := e3
    have HB3 := Lib.hid hb3
    have HN3 := Lib.hid hn3
    have HF5 := Lib.hid (HF4.out.trans hg3.2)
    have HO1 := Lib.hid (own_fr HO1.out hg3.2 (by simp))
    have HO2 := Lib.hid (own_fr HO2.out hg3.2 (by simp))
    clear hg3 hb3 hn3
    go_wp2_with fail
    refine (HL2.out w5 HF5.out).mono ?_
    rintro e w6 ⟨v4, rfl, hg4⟩
    obtain ⟨a4, c4, rfl⟩ := own_slR hg4.1
    obtain ⟨a4', c4', e4, hb4, -, -, hn4, -⟩ := Bytes.of_own hg4.1
    simp only [Value.slice.injEq] at e4
    obtain ⟨rfl, -, rfl⟩ := e4
    have HB4 := Lib.hid hb4
    have HN4 := Lib.hid hn4
    have HF6 := Lib.hid (HF5.out.trans hg4.2)
    have HB3 := Lib.hid (HB3.out.keep hg4.2)
    have HSI := Lib.hid (sameInts10 w6 _ _ 0 v1 v2 L (own_fr HO1.out hg4.2 (by simp)) (own_fr HO2.out hg4.2 (by simp)) (by have := HLN.out; omega))
    clear hg4 hb4 hn4
    go_wp2_with fail
    refine HSI.out.mono ?_
    rintro e w7 ⟨rfl, hf7⟩
    have HF7 := Lib.hid (HF6.out.trans hf7)
    have HSM := Lib.hid (same_any a3 a4 c3 c4 D D w7 HN3.out HN4.out (HB3.out.keep hf7) (HB4.out.keep hf7))
    rw [beq_self_eq_true] at HSM
    clear hf7
    go_wp2_with fail
    refine HSM.out.mono ?_
    rintro e w' ⟨rfl, rfl⟩
    have HBY := Lib.hid (Bytes_F _ bs w7 p s (HBO.out.f.keep HF7.out) (nib_keep HN.out (HF2.out.trans HF7.out)))
    rw [HFS.out] at HBY
    go_wp2_with fail
    refine HBY.out.mono ?_
    rintro e w8 ⟨v, rfl, hv⟩
    obtain ⟨g5, c5, rfl, -, -, hb5, hf5⟩ := hv.bytes
    have HF8 := Lib.hid (HF2.out.trans (HF7.out.trans hf5))
    have HSM := Lib.hid (same_any (some ⟨g5, 0, none⟩) a c5 c l l w8 (fun h => by cases h) HNO.out hb5 (HB.out.keep HF8.out))
    rw [beq_self_eq_true] at HSM
    clear hv hb5 hf5 HBY
    go_wp2_with fail
    refine HSM.out.mono ?_
    rintro e w' ⟨rfl, rfl⟩
    go_wp2_with fail
    go_ret
    exact ⟨rfl, HF8.out⟩
end Go.Proofs.YtkcipbjikimlfaaDoor
