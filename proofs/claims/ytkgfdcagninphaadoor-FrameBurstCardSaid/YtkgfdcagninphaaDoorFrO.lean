/- Frames: the walk of FrameBurst. -/
import Derived.Test.YtkgfdcagninphaaDoorFrL
import Derived.Test.YtkgfdcagninphaaDoorFrN
namespace Go.Proofs.YtkgfdcagninphaaDoor
open Go.RowKit
attribute [local go_sem ↓] Go.wp_at_zero Go.wp_at_succ
attribute [local go_sem] bits_xor8
/-- a cell of own bytes is written -/
theorem Bytes.set {w : World} {g : Nat} {l : List UInt8} (h : Bytes w (some ⟨g, 0, none⟩) l) (k : Nat) (hk : k < l.length) (x : UInt8) : Bytes (w.setCell ⟨g, k, none⟩ (B8 x)) (some ⟨g, 0, none⟩) (l.set k x) := by
  obtain ⟨b, off, e, hc⟩ := h.at (by omega)
  cases e
  refine Or.inr ⟨g, 0, rfl, fun j hj => ?_⟩
  rw [List.length_set] at hj
  by_cases e : k = j
  · subst e
    rw [Nat.zero_add]
    have h0 := hc k hj
    rw [Nat.zero_add] at h0
    rw [World.cell?_setCell_same _ _ _ h0]
    simp [List.getD, hj]
  · rw [World.cell?_setCell_other _ _ _ _ (by intro h; apply e; simpa using h.symm), hc j hj]
    simp [List.getD, List.getElem?_set, e]

theorem I8_ne0 (x : UInt8) : (I8 x != 0) = (x != 0) := by
  have h : (0 : Int) = I8 0 := by decide +kernel
  rw [h, I8_ne]
set_option maxRecDepth 100000 in
set_option maxHeartbeats 3200000 in
theorem frameBurst_walk (z : Int) (a a2 : Option Addr) (c c2 : Nat) (l t : List UInt8) (p : Int) (w : World) (hl : l.length ≤ 140737488351300) (hno : a = none → c = 0) (hb : Bytes w a l) (hl2 : t.length ≤ 140737488351300) (hb2 : Bytes w a2 t) (hn : Nib w) :
    Calls Tryd.prog 7 #[.agg #[.int .i64 z, .slice a l.length c], .int .i64 p, .slice a2 t.length c2] w fun e w' => e = .returned (.bool true) ∧ Fr [] w w' := by
  have HN := Lib.hid hn
  have HNO := Lib.hid hno
  have HB := Lib.hid hb
  have HB2 := Lib.hid hb2
  clear hn hno hb hb2
  go_enter Tryd.func7, Tryd.ntmps7
  go_wp2_with fail
  obtain ⟨wa, hwa⟩ : ∃ wa, wa = w.alloc (.cells #[.int .i64 z, .slice a l.length c] 25) := ⟨_, rfl⟩
  rw [← hwa]
  have HFA := Lib.hid (show Fr [] w wa by rw [hwa]; exact (Fr.refl _ _).alloc _)
  have HBA := Lib.hid (show wa.heap[w.heap.size]? = some (.cells #[.int .i64 z, .slice a l.length c] 25) by rw [hwa]; exact heap_alloc_new w _)
  clear hwa
  refine (speaks19 wa (nib_keep HN.out HFA.out)).mono ?_
  rintro e w1 ⟨rfl, hf1⟩
  have HF1 := Lib.hid (HFA.out.trans hf1)
  have hb1 := hf1.obj HBA.out (by simp)
  have HB1 := Lib.hid hb1
  have hlt1 := (Array.getElem?_eq_some_iff.1 hb1).1
  have hbd : w1.drew.heap[w.heap.size]? = some (.cells #[.int .i64 z, .slice a l.length c] 25) := hb1
  have HCL : Hid (∀ W, Fr [] w1 W → Calls Tryd.prog 12 #[.slice a l.length c] W fun e w' => ∃ g cap, e = .returned (.slice (some ⟨g, 0, none⟩) l.length cap) ∧ Bytes w' (some ⟨g, 0, none⟩) l ∧ Fr [] W w') := by
    refine Lib.hid fun W hW => (clone_any a c l W hl HNO.out ((HB.out.keep HF1.out).keep hW)).mono ?_
    rintro e w' ⟨v, rfl, hv⟩
    obtain ⟨g, cap, rfl, h1, h2, hb, hf⟩ := hv.bytes
    exact ⟨g, cap, rfl, hb, hf⟩
  have HNIB := Lib.hid (nib_keep HN.out HF1.out)
  clear hf1 hb1
  go_upto_region 3 with fail
  go_cut [7, 8] (fun v x wx => ∃ ax cx, v = .slice ax (fL z l).length cx ∧ x = .int .i64 (errP z l) ∧ wx.ownsRow w1.heap.size 5 1 (.slice ax (fL z l).length cx) (fL z l).length ((fL z l).map B8) ∧ Fr [] w1 wx)
  case first =>
    go_region_held3 (fun w' => w'.cell? ⟨w.heap.size, 0, none⟩ = some (.int .i64 z) ∧ w'.cell? ⟨w.heap.size, 1, none⟩ = some (.slice a l.length c))
      (first
        | with_reducible assumption
        | exact duo hbd
        | exact duo (hA.obj hbd (by simp))
        | exact duo (hP.obj (hA.obj hbd (by simp)) (by simp)))
      (first
        | (go_at_call 12; (with_reducible refine (HCL.out _ ((Fr.refl [] w1).drew)).mono ?_); rintro e wA ⟨gA, cA, rfl, hbA, hA⟩)
        | (go_at_call 13; (with_reducible refine (Pack_any z (some ⟨gA, 0, none⟩) cA l wA hl (fun h => by cases h) hbA (nib_keep HNIB.out (((Fr.refl [] w1).drew).trans hA))).mono ?_); rintro e wP ⟨aP, cP, rfl, hoP, hP⟩))
    all_goals go_wp2_with fail
    all_goals go_meet
    all_goals exact ⟨aP, cP, rfl, rfl, own_base hoP (by have := hA.size; simpa using this), (((Fr.refl [] w1).drew).trans hA).trans hP⟩
  case rest =>
    obtain ⟨ax, cx, rfl, rfl, hown, hfr⟩ := hcut
    have HOWN := Lib.hid hown
    have HFR := Lib.hid (HF1.out.trans hfr)
    have hb3 := hfr.obj HB1.out (by simp)
    obtain ⟨x0, x1⟩ := duo hb3
    clear hbd HCL HB1 HF1 hown hfr hb3
    obtain ⟨n, hn⟩ : ∃ n, n = (fL z l).length := ⟨_, rfl⟩
    by_cases hE : errP z l = 0
    · have hz := errP_0 hE
      rw [hE]
      have HFL := Lib.hid (fL_ok hE)
      have hnl : n = l.length + 9 := by rw [hn, HFL.out, fB_length]
      have HOWN0 := HOWN
      rw [← hn]
      rw [← hn] at HOWN
      have HN9 := Lib.hid hnl
      have HZ := Lib.hid hz
      have HNN := Lib.hid hn
      have hnb : n ≤ 1048585 := by have := hz.2; omega
      clear hE hz hn hnl
      by_cases h5 : p < 5
      · have hd : decide (p < 5) = true := decide_eq_true h5
        go_wp2
        go_ret
        exact ⟨rfl, HFR.out⟩
      · by_cases h6 : (n : Int) ≤ p
        · have hd : decide (p < 5) = false := decide_eq_false h5
          have hd2 : decide ((n : Int) ≤ p) = true := decide_eq_true h6
          go_wp2
          go_ret
          exact ⟨rfl, HFR.out⟩
        · have hd : decide (p < 5) = false := decide_eq_false h5
          have hd2 : decide ((n : Int) ≤ p) = false := decide_eq_false h6
          obtain ⟨q, rfl⟩ : ∃ q : Nat, p = ((q + 5 : Nat) : Int) := ⟨(p - 5).toNat, by omega⟩
          obtain ⟨g, rfl, hg, _⟩ := spl_addr HOWN.out (by omega)
          have hbx := (own_by HOWN0.out).1
          have hcx := (own_by HOWN0.out).2
          rw [← HNN.out] at hcx
          have hfz : ∀ j, wc.frozen? ⟨g, j, none⟩ = false := fun j => own_free HOWN.out rfl j
          rw [HFL.out] at hbx
          obtain ⟨T, hT⟩ : ∃ T, T = UInt8.ofNat z.toNat := ⟨_, rfl⟩
          rw [← hT] at hbx
          have hbl : (fB T l).length = n := by rw [fB_length, HN9.out]
          have hsp : Hid (∀ m, m = 0 ∨ q + m ≤ l.length → m ≤ t.length → m ≤ 4 → spl (mixb (fB T l) (q + 5) t m) = if un t m = true then ([], 91) else ([(T, mixb l q t m)], 0)) := Lib.hid fun m h1 h2 h3 => spl_mixb T l t q m HZ.out.2 h1 h2 h3
          obtain ⟨L, hL⟩ : ∃ L, L = fB T l := ⟨_, rfl⟩
          rw [← hL] at hbx hbl hsp
          obtain ⟨P, hP⟩ : ∃ P, P = q + 5 := ⟨_, rfl⟩
          rw [← hP] at hsp h5 h6 hd hd2 ⊢
          obtain ⟨m, hm⟩ : ∃ m, m = min t.length (min 4 (n - 4 - P)) := ⟨_, rfl⟩
          have HM := Lib.hid hm
          have HPQ := Lib.hid hP
          have HBL := Lib.hid hbl
          have hgw : w.heap.size < g := by omega
          clear hT hL hP hm hbl HNN x0 x1
          go_wp2_with fail
          go_loopw [9, 10] (fun u i wr => ∃ k : Nat, k ≤ m ∧ i = .int .i64 k ∧ u = .bool (un t k) ∧ Fr [] w wr ∧ (∀ j, wr.frozen? ⟨g, j, none⟩ = false) ∧ Bytes wr (some ⟨g, 0, none⟩) (mixb L P t k)) (fun _ i _ => m - (intOf i).toNat)
          case atStart => exact ⟨0, by omega, rfl, rfl, HFR.out, hfz, hbx⟩
          case round =>
            obtain ⟨k, hk, rfl, rfl, hf, hz, hb⟩ := hrel
            by_cases hlt : k < m
            · have j1 : (k : Int) < (t.length : Int) := by have := HM.out; omega
              have j2 : (k : Int) < 4 := by have := HM.out; omega
              have j3 : (k : Int) < (n : Int) - 4 - (P : Int) := by have := HM.out; omega
              obtain ⟨b2, o2, rfl, hx2⟩ := HB2.out.at (by have := HM.out; omega)
              obtain ⟨_, _, hbe, hx1⟩ := hb.at (by rw [mixb_length, HBL.out]; omega)
              cases hbe
              have HX2 := Lib.hid (hx2 k (by omega))
              have d2 : wr.cell? ⟨b2, o2 + k, none⟩ = some (.int .u8 (I8 (t.getD k 0))) := hf.cell (hx2 k (by omega)) (by simp)
              have d1 : wr.cell? ⟨g, P + k, none⟩ = some (.int .u8 (I8 (L.getD (P + k) 0))) := by
                have := hx1 (P + k) (by rw [mixb_length, HBL.out]; omega)
                rw [Nat.zero_add, mixb_far _ _ _ _ _ (by omega)] at this
                exact this
              have dz := hz (P + k)
              have hun := un_next t k (by omega)
              clear hx1 hx2 hbx hfz
              obtain ⟨y1, hy1⟩ : ∃ y, y = L.getD (P + k) 0 := ⟨_, rfl⟩
              obtain ⟨y2, hy2⟩ : ∃ y, y = t.getD k 0 := ⟨_, rfl⟩
              rw [← hy1] at d1
              rw [← hy2] at d2 hun
              have HY1 := Lib.hid hy1; clear hy1
              have HY2 := Lib.hid hy2; clear hy2
              have HU := Lib.hid hun; clear hun
              have HZF := Lib.hid hz; clear hz
              have d3 : (wr.setCell ⟨g, P + k, none⟩ (.int .u8 (I8 (y1 ^^^ y2)))).drew.cell? ⟨b2, o2 + k, none⟩ = some (.int .u8 (I8 y2)) := by
                have h0 := World.block_lt_of_cell? w _ (HX2.out)
                have hne : b2 ≠ g := by
                  intro e
                  subst e
                  have : b2 < w.heap.size := h0
                  omega
                show (wr.setCell ⟨g, P + k, none⟩ (.int .u8 (I8 (y1 ^^^ y2)))).cell? ⟨b2, o2 + k, none⟩ = _
                rw [World.cell?_setCell_other _ _ _ _ (by simp [hne])]
                exact d2
              clear HX2
              generalize hu : un t k = u
              rw [hu] at HU
              have hu' := Lib.hid hu; clear hu
              cases u
              · go_wp2_with fail
                go_region
                go_wp2
                go_roundw
                case rel =>
                  refine ⟨k + 1, by omega, by go_num, by rw [HU.out, I8_ne0]; rfl, (hf.setCell (fun h => absurd h (by show ¬ g < _; omega)) _).drew, fun j => (World.frozen?_setCell _ _ _ _).trans (HZF.out j), ?_⟩
                  have := hb.set (P + k) (by rw [mixb_length, HBL.out]; omega) (L.getD (P + k) 0 ^^^ t.getD k 0)
                  rw [← HY1.out, ← HY2.out] at this
                  have e : mixb L P t (k + 1) = (mixb L P t k).set (P + k) (y1 ^^^ y2) := by rw [HY1.out, HY2.out]; rfl
                  rw [e]
                  exact this
                case measure => simp [intOf] <;> omega
              · go_wp2_with fail
                go_region
                go_wp2
                go_roundw
                case rel =>
                  refine ⟨k + 1, by omega, by go_num, by rw [HU.out]; rfl, (hf.setCell (fun h => absurd h (by show ¬ g < _; omega)) _).drew, fun j => (World.frozen?_setCell _ _ _ _).trans (HZF.out j), ?_⟩
                  have := hb.set (P + k) (by rw [mixb_length, HBL.out]; omega) (L.getD (P + k) 0 ^^^ t.getD k 0)
                  rw [← HY1.out, ← HY2.out] at this
                  have e : mixb L P t (k + 1) = (mixb L P t k).set (P + k) (y1 ^^^ y2) := by rw [HY1.out, HY2.out]; rfl
                  rw [e]
                  exact this
                case measure => simp [intOf] <;> omega
            · have hend : t.length ≤ k ∨ (k < t.length ∧ (4 : Int) ≤ (k : Int)) ∨ (k < t.length ∧ ((k : Int) < 4) ∧ (n : Int) - 4 - (P : Int) ≤ (k : Int)) := by have := HM.out; omega
              have HSP := Lib.hid (hsp.out k (by have := HM.out; have := HPQ.out; have := HN9.out; omega) (by have := HM.out; omega) (by have := HM.out; omega))
              have hS := Split_any (some ⟨g, 0, none⟩) cx (mixb L P t k) wr (by rw [mixb_length, HBL.out]; omega) (by rw [mixb_length, HBL.out]; exact hcx) (fun h => by cases h) hb (nib_keep HN.out hf)
              rw [mixb_length, HBL.out] at hS
              have HS := Lib.hid hS
              have HFX := Lib.hid hf
              clear hsp hS hbx hfz hz hb hf
              generalize hu : un t k = u
              rw [hu] at HSP
              clear hu
              rcases hend with he | ⟨h1, h2⟩ | ⟨h1, h2, h3⟩
              all_goals
                go_wp2_with fail
                refine HS.out.mono ?_
                rintro e w3 ⟨v, X, rfl, hX, hXm, hf3⟩
                rw [HSP.out] at hXm ⊢
                have HF3 := Lib.hid (HFX.out.trans hf3)
                cases u
                · obtain ⟨xa, xc, rfl⟩ := one_FI hXm
                  obtain ⟨va, vc, rfl⟩ := own_sl hX.row
                  clear hX hXm hf3
                  go_wp2
                  go_ret
                  exact ⟨rfl, HF3.out⟩
                · obtain rfl : X = [] := by simpa using hXm
                  obtain ⟨va, vc, rfl⟩ := own_sl hX.row
                  clear hX hXm hf3
                  go_wp2
                  go_ret
                  exact ⟨rfl, HF3.out⟩
    · have HZ : z < 0 ∨ 255 < z ∨ 1048576 < l.length := by
        by_cases h1 : z < 0 ∨ 255 < z
        · omega
        · by_cases h2 : 1048576 < l.length
          · omega
          · exact absurd (errP_ok h1 h2) hE
      generalize errP z l = E at hE
      have hE1 : (E != 0) = true := by rw [bne_iff_ne]; exact hE
      have hE2 : (E == 0) = false := by rw [beq_eq_false_iff_ne]; exact hE
      clear hn HOWN
      rcases HZ with hz | hz | hz
      · have hd : decide (z < 0) = true := decide_eq_true hz
        go_wp2
        go_ret
        exact ⟨rfl, HFR.out⟩
      · have hd : decide (z < 0) = false := decide_eq_false (by omega)
        have hd2 : decide (255 < z) = true := decide_eq_true hz
        go_wp2
        go_ret
        exact ⟨rfl, HFR.out⟩
      · have hz2 : (1048576 : Int) < (l.length : Int) := by omega
        have hd3 : decide ((1048576 : Int) < (l.length : Int)) = true := decide_eq_true hz2
        by_cases h1 : z < 0
        · have hd : decide (z < 0) = true := decide_eq_true h1
          go_wp2
          go_ret
          exact ⟨rfl, HFR.out⟩
        · have hd : decide (z < 0) = false := decide_eq_false h1
          by_cases h2 : 255 < z
          · have hd2 : decide (255 < z) = true := decide_eq_true h2
            go_wp2
            go_ret
            exact ⟨rfl, HFR.out⟩
          · have hd2 : decide (255 < z) = false := decide_eq_false h2
            go_wp2
            go_ret
            exact ⟨rfl, HFR.out⟩
end Go.Proofs.YtkgfdcagninphaaDoor
