/- Record files: RecfileSpoilt. -/
import Derived.Test.YtibhbfmljibeaaaDoorRfL
import Derived.Test.YtibhbfmljibeaaaDoorRfN
namespace Go.Proofs.YtibhbfmljibeaaaDoor
open Go.RowKit
attribute [local go_sem ↓] Go.wp_at_zero Go.wp_at_succ
set_option maxRecDepth 100000 in
set_option maxHeartbeats 3200000 in
theorem recfileSpoilt_walk (a : Option Addr) (c : Nat) (l : List UInt8) (z : Int) (t : UInt8) (w : World) (hl : l.length ≤ 140737488351300) (hno : a = none → c = 0) (hb : Bytes w a l) (hn : Nib w) :
    Calls Tryd.prog 4 #[.slice a l.length c, .int .i64 z, .int .u8 (I8 t)] w fun e w' => e = .returned (.bool true) ∧ Fr [] w w' := by
  have HN := Lib.hid hn
  have HB := Lib.hid hb
  have HNO := Lib.hid hno
  clear hn hb hno
  go_enter Tryd.func4, Tryd.ntmps4
  go_wp2_with fail
  refine (speaks09 w HN.out).mono ?_
  rintro e w1 ⟨rfl, hf1⟩
  have HF1 := Lib.hid hf1
  clear hf1
  go_wp2_with fail
  refine (clone_any a c l w1 hl HNO.out (HB.out.keep HF1.out)).mono ?_
  rintro e w2 ⟨v, rfl, hv⟩
  obtain ⟨g, cap, rfl, -, -, hb2, hf2⟩ := hv.bytes
  have HCAP := Lib.hid hv.cap
  have HB2 := Lib.hid hb2
  have HF2 := Lib.hid (HF1.out.trans hf2)
  clear hv hb2 hf2
  go_wp2_with fail
  refine (Open_F (some ⟨g, 0, none⟩) cap l w2 hl HCAP.out HB2.out (nib_keep HN.out HF2.out)).mono ?_
  rintro e w3 (⟨E, -, rfl, hf3⟩ | ⟨kd, vr, sz, R, p, bs, hO, rfl, -, hf3⟩)
  · have HF3 := Lib.hid (HF2.out.trans hf3)
    clear hf3
    go_wp2
    go_ret
    exact ⟨rfl, HF3.out⟩
  have HF3 := Lib.hid (HF2.out.trans hf3)
  have HO := Lib.hid hO
  clear hf3 hO
  by_cases h1 : z < 0
  · go_wp2
    go_ret
    exact ⟨rfl, HF3.out⟩
  by_cases h2 : 15 < z
  · go_wp2
    go_ret
    exact ⟨rfl, HF3.out⟩
  obtain ⟨k, rfl⟩ : ∃ k : Nat, z = k := ⟨z.toNat, by omega⟩
  by_cases h3 : l.length ≤ k
  · go_wp2
    go_ret
    exact ⟨rfl, HF3.out⟩
  have h0 : (I8 t == 0) = (t == 0) := by
    have h := I8_eq t 0
    rwa [show I8 0 = 0 by decide +kernel] at h
  by_cases h4 : t = 0
  · have h5 : (t == 0) = true := by rw [h4]; rfl
    clear h4
    go_wp2
    go_ret
    exact ⟨rfl, HF3.out⟩
  have h5 : (t == 0) = false := beq_eq_false_iff_ne.2 h4
  have H4 := Lib.hid h4
  have hk0 : (0 : Int) ≤ (k : Int) := by omega
  have hk1 : k < l.length := by omega
  have hk2 : (k : Int) < (l.length : Int) := by omega
  have HK := Lib.hid (show k < 16 by omega)
  clear h4
  go_wp2_with fail
  refine (clone_any a c l w3 hl HNO.out (HB.out.keep HF3.out)).mono ?_
  rintro e w4 ⟨v, rfl, hv⟩
  obtain ⟨g2, cap2, rfl, hg, hgl, ho4, hf4⟩ := hv
  have hb4 := (own_byR ho4).1
  have hcap := (own_byR ho4).2
  obtain ⟨x, hx⟩ : ∃ x, x = l.getD k 0 := ⟨_, rfl⟩
  have y0 : w4.cell? ⟨g2, k, none⟩ = some (.int .u8 (I8 x)) := by
    obtain ⟨b', o', e, hcs⟩ := hb4.at (by omega)
    cases e
    have h := hcs k hk1
    rw [← hx, B8] at h
    simpa using h
  have yf := own_free ho4 rfl k
  have hxor := bits_xor8 x t
  have HO4 := Lib.hid ho4
  have HF4 := Lib.hid (HF3.out.trans hf4)
  have HX := Lib.hid hx
  have HG := Lib.hid (show w.heap.size ≤ g2 from Nat.le_trans HF3.out.size hg)
  have HCP := Lib.hid hcap
  have hgl2 : g2 < w4.heap.size := hgl
  clear hb4 hcap hx ho4 hf4 hg hgl
  go_wp2_with fail
  obtain ⟨w5, hw5⟩ : ∃ w5, w5 = w4.setCell ⟨g2, k, none⟩ (.int .u8 (I8 (x ^^^ t))) := ⟨_, rfl⟩
  rw [← hw5]
  have ho5 : w5.ownsRow w3.heap.size 5 1 (.slice (some ⟨g2, 0, none⟩) l.length cap2) (l.set k (x ^^^ t)).length ((l.set k (x ^^^ t)).map B8) := by
    have h := spl_set HO4.out k (B8 (x ^^^ t))
    rw [List.length_set, List.map_set, hw5]
    exact h
  have hf5 : Fr [] w w5 := by rw [hw5]; exact HF4.out.setCell (by have := HG.out; intro h; exfalso; simp at h; omega) _
  have hb5 := (own_byR ho5).1
  have hO5 := Open_F (some ⟨g2, 0, none⟩) cap2 (l.set k (x ^^^ t)) w5 (by rw [List.length_set]; exact hl) (by rw [List.length_set]; exact HCP.out) hb5 (nib_keep HN.out hf5)
  rw [List.length_set] at hO5
  have HF5 := Lib.hid hf5
  have HO5 := Lib.hid hO5
  clear ho5 hf5 hb5 hO5 hw5 y0 yf hxor
  refine HO5.out.mono ?_
  rintro e w6 (⟨E, hE, rfl, hf6⟩ | ⟨kd', vr', sz', R', p', bs', hE, -, -, -⟩)
  · have hEn : (E != 0) = true := by
      rw [bne_iff_ne]
      rcases openB_err hE with h | h | h | h | h | h | h <;> rw [h] <;> decide
    have HF6 := Lib.hid (HF5.out.trans hf6)
    clear hE hf6
    go_wp2
    go_ret
    exact ⟨rfl, HF6.out⟩
  · exfalso
    obtain ⟨E, h⟩ := openB_spoilt HO.out HK.out H4.out
    rw [← HX.out] at h
    rw [h] at hE
    cases hE
end Go.Proofs.YtibhbfmljibeaaaDoor
