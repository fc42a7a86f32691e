/- A codec that writes carries labels. -/
import Derived.Test.YtbhmfbhfofgfaaaOneC
import Derived.Deep.CutRange
import Derived.Deep.DeepCutAuto
namespace Go.Proofs.Ytbhmfbhfofgfaaa
open Go.RowKit
attribute [local go_sem ↓] Go.wp_at_zero Go.wp_at_succ
/-- the bytes of the first labels -/
def labU (L : List Int) : Nat → List UInt8
  | 0 => []
  | k + 1 => labU L k ++ by8 1 (numU (labAt L k) 1).toNat
theorem labU_length (L : List Int) (k : Nat) : (labU L k).length = k := by
  induction k with
  | zero => rfl
  | succ k ih => rw [labU, List.length_append, ih, by8_length]
theorem CW.same {w0 w w' : World} {q p : Nat} {l : List UInt8} {b b' : Bool} (h : CW w0 w q p l b) (hw : w = w') (hb : b = b') : CW w0 w' q p l b' := by subst hw; subst hb; exact h
theorem own_ne {w : World} {B g T n : Nat} {v : Value} {l : List UInt8} {cs : Array Value} (h : w.ownsRow B 5 1 v n (l.map B8)) (hg : w.heap[g]? = some (.cells cs T)) (hT : T ≠ 5) : ∀ i, v.ownBlock = some i → i ∉ [g] := by
  intro i hi hm
  obtain rfl : i = g := by simpa using hm
  rcases h.2 with ⟨rfl, _⟩ | ⟨k, cap, cur, rfl, _, hh, _⟩
  · simp [Value.ownBlock] at hi
  · simp only [Value.ownBlock, Option.some.injEq] at hi
    subst hi
    rw [hg] at hh
    simp at hh
    exact hT hh.2
theorem CW.other {w0 w w' : World} {q p nb T : Nat} {l : List UInt8} {bad : Bool} {cs : Array Value} (h : CW w0 w q p l bad) (hn : w.heap[nb]? = some (.cells cs T)) (hT : T ≠ 5) (hq : q < nb) (hf : Fr [nb] w w') : CW w0 w' q p l bad := by
  obtain ⟨v, h1, h2⟩ := h.ex
  have := h.lo
  have := h.pq
  exact ⟨hf.obj h.cod (by simp; omega), ⟨v, hf.obj h1 (by simp; omega), own_fr h2 hf (own_ne h2 hn hT)⟩, h.lo, h.pq, h.fr.next hf (by intro i hi hlt; simp at hi; omega)⟩
theorem CW.setK {w0 w : World} {q p nb : Nat} {l : List UInt8} {bad : Bool} {o : Obj} (h : CW w0 w q p l bad) (b : Bool) (hn : w.heap[nb]? = some o) (hq : q < nb) : CW w0 (w.setCell ⟨q, 2, none⟩ (.bool b)) q p l b ∧ (w.setCell ⟨q, 2, none⟩ (.bool b)).heap[nb]? = some o :=
  ⟨h.set b, by
    have hf : Fr [q] w (w.setCell ⟨q, 2, none⟩ (.bool b)) := (Fr.refl _ _).setCell (by simp) _
    have hlt := (Array.getElem?_eq_some_iff.1 hn).1
    rw [hf.block nb hlt (by simp; omega)]; exact hn⟩
set_option maxRecDepth 100000 in
set_option maxHeartbeats 3200000 in
theorem labels_W (w0 w : World) (q p : Nat) (l : List UInt8) (bad : Bool) (b c : Nat) (a : Option Addr) (L : List Int) (h : CW w0 w q p l bad) (hn : w0.cell? ⟨b, 2, none⟩ = some (.slice a L.length c)) (hb : b < w0.heap.size) (hI : Ints w0 a L) (hL : L.length ≤ 140737488351300) (hroom : l.length ≤ 900) :
    Calls Try.prog 55 #[.pointer (some ⟨q, 0, none⟩), .pointer (some ⟨b, 2, none⟩)] w fun e w' => e = .returned (.tuple #[]) ∧ CW w0 w' q p (l ++ labU L 8) (labWs L ⟨bad || !decide (L.length ≤ 8), false, -1⟩ 8).bad := by
  have H := Lib.hid h
  have HN := Lib.hid hn
  have HI := Lib.hid hI
  have hn1 := h.fr.cell hn (by simp)
  obtain ⟨c0, c1, c2, c2f⟩ := cod_cells h.cod
  have hbq : b ≠ q := by have := h.lo; have := h.pq; omega
  have hbp : b ≠ p := by have := h.lo; omega
  clear h hn hI
  obtain ⟨s0, hs0⟩ : ∃ s0 : LS, s0 = ⟨bad || !decide (L.length ≤ 8), false, -1⟩ := ⟨_, rfl⟩
  have HS0 := Lib.hid hs0
  have HB0 := Lib.hid (show s0.bad = (bad || !decide (L.length ≤ 8)) by rw [hs0])
  clear hs0
  go_enter Try.func55, Try.ntmps55
  go_upto_region 0 with fail
  go_cut [] (fun wx => CW w0 wx q p l s0.bad)
  case first =>
    cases bad
    · by_cases h8 : L.length ≤ 8
      · have hd : decide ((8 : Int) < (L.length : Int)) = false := decide_eq_false (by omega)
        go_wp2_with fail
        go_meet
        exact (H.out.set false).same rfl (by rw [HB0.out, decide_eq_true h8]; rfl)
      · have hd : decide ((8 : Int) < (L.length : Int)) = true := decide_eq_true (by omega)
        go_wp2_with fail
        go_meet
        exact (H.out.set true).same rfl (by rw [HB0.out, decide_eq_false h8]; rfl)
    · go_wp2_with fail
      go_meet
      exact (H.out.set true).same rfl (by rw [HB0.out]; rfl)
  case rest =>
    have HC := Lib.hid hcut
    clear c0 c1 c2 c2f hn1 hcut
    go_wp2_with fail
    go_loopw [22, 4, 5] (fun i la en wr => ∃ k : Nat, k ≤ 8 ∧ i = .int .i64 k ∧ la = .int .i64 (labWs L s0 k).last ∧ en = .bool (labWs L s0 k).ended ∧ CW w0 wr q p (l ++ labU L k) (labWs L s0 k).bad) (fun i _ _ _ => 8 - (intOf i).toNat)
    case atStart => exact ⟨0, by omega, rfl, by rw [show labWs L s0 0 = s0 from rfl, HS0.out], by rw [show labWs L s0 0 = s0 from rfl, HS0.out], by rw [show l ++ labU L 0 = l from by simp [labU]]; exact HC.out⟩
    case round =>
      obtain ⟨k, hk, rfl, rfl, rfl, hcw⟩ := hrel
      have HCW := Lib.hid hcw
      have HSK := Lib.hid (show labWs L s0 (k + 1) = labW L (labWs L s0 k) k from rfl)
      have HUK := Lib.hid (show labU L (k + 1) = labU L k ++ by8 1 (numU (labAt L k) 1).toNat from rfl)
      have HLK := Lib.hid (labU_length L k)
      have HUE : Hid (k = 8 → labU L 8 = labU L k) := Lib.hid (fun e => by rw [e])
      have HSE : Hid (k = 8 → labWs L s0 8 = labWs L s0 k) := Lib.hid (fun e => by rw [e])
      clear hcw
      generalize labWs L s0 k = s at HCW HSK HSE ⊢
      generalize labU L k = U at HCW HUK HLK HUE
      obtain ⟨sb, se, sl⟩ := s
      by_cases hlt : k < 8
      · have hlt' : (k : Int) < 8 := by omega
        go_upto_region 6 with fail
        obtain ⟨w1, hw1⟩ : ∃ w1, w1 = wr.alloc (.cells #[.int .i64 (-1)] 3) := ⟨_, rfl⟩
        rw [← hw1]
        have hf1 : Fr [] wr w1 := by rw [hw1]; exact (Fr.refl _ _).alloc _
        have hno : w1.heap[wr.heap.size]? = some (.cells #[.int .i64 (-1)] 3) := by rw [hw1]; exact heap_alloc_new wr _
        have hC1 : CW w0 w1 q p (l ++ U) sb := HCW.out.still hf1
        have hnq : q < wr.heap.size := HCW.out.lt
        have hpq := HCW.out.pq
        have hn1 := hC1.fr.cell HN.out (by simp)
        have HC1 := Lib.hid hC1
        have HNO := Lib.hid hno
        clear hw1 hf1 hno hC1 HCW
        generalize wr.heap.size = nb at HNO hnq ⊢
        go_upto_if 30 with fail
        go_cut [22] from 22 to 92 (fun i wx => i = .int .i64 k ∧ CW w0 wx q p (l ++ U) (sb || (decide (k < L.length) && decide (labAt L k < 0))) ∧ wx.heap[nb]? = some (.cells #[.int .i64 (labAt L k)] 3))
        case first =>
          by_cases hin : k < L.length
          · have hd : decide ((k : Int) < (L.length : Int)) = true := decide_eq_true (by omega)
            have hin' : (k : Int) < (L.length : Int) := by omega
            obtain ⟨ab, ao, rfl, hcs⟩ := HI.out.at (by omega)
            have hel := HC1.out.fr.cell (hcs k hin) (by simp)
            have HX := Lib.hid (show labAt L k = L.getD k 0 from if_pos hin)
            clear hcs
            generalize L.getD k 0 = x at hel HX
            have hx0 := cell_of_row w1 nb 0 _ _ _ HNO.out
            have hxf := frozen_of_row w1 nb 0 _ _ HNO.out
            go_upto_region 8 with fail
            obtain ⟨w2, hw2⟩ : ∃ w2, w2 = w1.setCell ⟨nb, 0, none⟩ (.int .i64 x) := ⟨_, rfl⟩
            rw [← hw2]
            have hf2 : Fr [nb] w1 w2 := by rw [hw2]; exact (Fr.refl _ _).setCell (by simp) _
            have hno2 : w2.heap[nb]? = some (.cells #[.int .i64 x] 3) := by rw [hw2, heap_setCell_same w1 nb 0 _ _ _ HNO.out]; rfl
            have HC2 := Lib.hid (HC1.out.other HNO.out (by decide) hnq hf2)
            have HNO2 := Lib.hid hno2
            have hx2 := cell_of_row w2 nb 0 _ _ _ hno2
            obtain ⟨c0, c1, c2, c2f⟩ := cod_cells HC2.out.cod
            have HD := Lib.hid (decide_eq_true hin)
            clear hw2 hf2 hno2 hel hx0 hxf hn1 hd hin hin'
            cases sb
            · by_cases hxn : x < 0
              · have hd : decide (x < 0) = true := decide_eq_true hxn
                go_wp2_with fail
                go_meet
                have hS := HC2.out.setK true HNO2.out hnq
                exact ⟨rfl, hS.1.same rfl (by rw [HD.out, HX.out, hd]; rfl), by rw [HX.out]; exact hS.2⟩
              · have hd : decide (x < 0) = false := decide_eq_false hxn
                go_wp2_with fail
                go_meet
                have hS := HC2.out.setK false HNO2.out hnq
                exact ⟨rfl, hS.1.same rfl (by rw [HD.out, HX.out, hd]; rfl), by rw [HX.out]; exact hS.2⟩
            · go_wp2_with fail
              go_meet
              have hS := HC2.out.setK true HNO2.out hnq
              exact ⟨rfl, hS.1.same rfl rfl, by rw [HX.out]; exact hS.2⟩
          · have hd : decide ((k : Int) < (L.length : Int)) = false := decide_eq_false (by omega)
            go_wp2_with fail
            go_meet
            exact ⟨rfl, HC1.out.same rfl (by rw [decide_eq_false hin]; simp), by rw [show labAt L k = -1 from if_neg hin]; exact HNO.out⟩
        case rest =>
          obtain ⟨rfl, hC2, hno2⟩ := hcut
          obtain ⟨z, hz⟩ : ∃ z, z = labAt L k := ⟨_, rfl⟩
          obtain ⟨B1, hB1⟩ : ∃ B1, B1 = (sb || (decide (k < L.length) && decide (labAt L k < 0))) := ⟨_, rfl⟩
          rw [← hz] at hno2 HUK
          rw [← hB1] at hC2
          have HSK2 := Lib.hid (show labWs L s0 (k + 1) = ⟨(okN B1 z (-1) 200 || (decide (0 ≤ z) && (decide (z ≤ sl) || se))), se || decide (z < 0), z⟩ by rw [HSK.out, hz, hB1]; rfl)
          have HC2 := Lib.hid hC2
          have HNO2 := Lib.hid hno2
          have hx2 := cell_of_row wc nb 0 _ _ _ hno2
          clear hC2 hno2 hz hB1 hn1 HC1 HNO HSK
          go_wp2_with fail
          refine (num_W w0 wc q p _ B1 1 nb 0 z (-1) 200 1 HC2.out (by unfold Wd; omega) hx2 (by omega) (by omega) (by have := HLK.out; rw [List.length_append]; omega)).mono ?_
          rintro e w3 ⟨rfl, h3, k3⟩
          have HC3 := Lib.hid h3
          have hno3 := k3 nb _ _ HNO2.out (by omega) (by omega) (by decide)
          have HNO3 := Lib.hid hno3
          have hx3 := cell_of_row w3 nb 0 _ _ _ hno3
          obtain ⟨c0, c1, c2, c2f⟩ := cod_cells h3.cod
          clear h3 k3 hno3 hx2 HC2 HNO2
          generalize okN B1 z (-1) 200 = B3 at HC3 HSK2 c2
          generalize hl3 : l ++ U ++ by8 1 (numU z 1).toNat = l3 at HC3
          have HL3 := Lib.hid hl3
          clear hl3
          go_upto_region 10 with fail
          go_cut [22] from 22 to 92 (fun i wx => i = .int .i64 k ∧ CW w0 wx q p l3 (B3 || (decide (0 ≤ z) && (decide (z ≤ sl) || se))) ∧ wx.heap[nb]? = some (.cells #[.int .i64 z] 3))
          case first =>
            cases B3
            · by_cases h0 : 0 ≤ z
              · have hd : decide (0 ≤ z) = true := decide_eq_true h0
                by_cases hl : z ≤ sl
                · have hd2 : decide (z ≤ sl) = true := decide_eq_true hl
                  go_wp2_with fail
                  go_meet
                  have hS := HC3.out.setK true HNO3.out hnq
                  exact ⟨rfl, hS.1.same rfl (by rw [hd, hd2]; rfl), hS.2⟩
                · have hd2 : decide (z ≤ sl) = false := decide_eq_false hl
                  cases se
                  · go_wp2_with fail
                    go_meet
                    have hS := HC3.out.setK false HNO3.out hnq
                    exact ⟨rfl, hS.1.same rfl (by rw [hd, hd2]; rfl), hS.2⟩
                  · go_wp2_with fail
                    go_meet
                    have hS := HC3.out.setK true HNO3.out hnq
                    exact ⟨rfl, hS.1.same rfl (by rw [hd, hd2]; rfl), hS.2⟩
              · have hd : decide (0 ≤ z) = false := decide_eq_false h0
                go_wp2_with fail
                go_meet
                have hS := HC3.out.setK false HNO3.out hnq
                exact ⟨rfl, hS.1.same rfl (by rw [hd]; rfl), hS.2⟩
            · go_wp2_with fail
              go_meet
              have hS := HC3.out.setK true HNO3.out hnq
              exact ⟨rfl, hS.1.same rfl rfl, hS.2⟩
          case rest =>
            obtain ⟨rfl, hC4, hno4⟩ := hcut
            have HC4 := Lib.hid hC4
            have hx4 := cell_of_row wc nb 0 _ _ _ hno4
            obtain ⟨c0, c1, c2, c2f⟩ := cod_cells hC4.cod
            clear hC4 hno4 HC3 HNO3
            go_upto_region 11 with fail
            go_cut [22, 5] from 22 to 92 (fun i en wx => i = .int .i64 k ∧ en = .bool (se || decide (z < 0)) ∧ wx = wc)
            case first =>
              cases se
              · by_cases hl : z < 0
                · have hd : decide (z < 0) = true := decide_eq_true hl
                  go_wp2_with fail
                  go_meet
                  exact ⟨rfl, by rw [hd]; rfl, rfl⟩
                · have hd : decide (z < 0) = false := decide_eq_false hl
                  go_wp2_with fail
                  go_meet
                  exact ⟨rfl, by rw [hd]; rfl, rfl⟩
              · go_wp2_with fail
                go_meet
                exact ⟨rfl, rfl, rfl⟩
            case rest =>
              obtain ⟨rfl, rfl, rfl⟩ := hcut
              generalize (se || decide (z < 0)) = E at HSK2
              go_wp2_with fail
              go_roundw
              case rel =>
                refine ⟨k + 1, by omega, by go_num, by rw [HSK2.out], by rw [HSK2.out], ?_⟩
                rw [HSK2.out, HUK.out, ← List.append_assoc, HL3.out]
                exact HC4.out
              case measure => simp [intOf] <;> omega
      · have HUE := Lib.hid (HUE.out (by omega))
        have HSE := Lib.hid (HSE.out (by omega))
        go_wp2
        go_end0
        exact ⟨rfl, by rw [← HS0.out, HUE.out]; exact HCW.out.same rfl (by rw [HSE.out])⟩
end Go.Proofs.Ytbhmfbhfofgfaaa
