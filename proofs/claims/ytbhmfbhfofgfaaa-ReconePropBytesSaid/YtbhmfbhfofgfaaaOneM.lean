/- Version 1's property: a codec that reads one, and get. -/
import Derived.Test.YtbhmfbhfofgfaaaOneL
import Derived.Laws.ResultCell
import Derived.Laws.IdiomCopy
import Derived.Deep.CutRange
import Derived.Deep.DeepCutAuto
namespace Go.Proofs.Ytbhmfbhfofgfaaa
open Go.RowKit

set_option maxRecDepth 100000 in
set_option maxHeartbeats 3200000 in
theorem prop_R (w : World) (q p g b : Nat) (l : List UInt8) (h : CR w q p g l 0 false) (hob : w.heap[b]? = some (.cells #[.int .i64 0, .int .i64 0, .int .i64 0, .int .i64 (-1), .int .i64 0, .int .i64 0] 53)) (hqg : g < w.heap.size) (hbq : b ≠ q) (hbp : b ≠ p) (hbg : b ≠ g) (hl : l.length = 19) :
    Calls Try.prog 44 #[.pointer (some ⟨q, 0, none⟩), .pointer (some ⟨b, 0, none⟩)] w fun e w' => e = .returned (.tuple #[]) ∧ CR w' q p g l 19 (pRB l) ∧ w'.heap[b]? = some (.cells (pDec l).cells.toArray 53) ∧ Fr [q, p, b] w w' := by
  have H := Lib.hid h
  have HO := Lib.hid hob
  have hqs : q < w.heap.size := (Array.getElem?_eq_some_iff.1 h.cod).1
  have hps : p < w.heap.size := h.rd.lt
  have hbs : b < w.heap.size := (Array.getElem?_eq_some_iff.1 hob).1
  have hqp := h.qp
  have hqg' := h.qg
  have hpg := h.rd.ne
  have HL := Lib.hid hl
  have hle : l.length ≤ 1000 := by omega
  clear h hob hl
  go_enter Try.func44, Try.ntmps44
  go_wp2_with fail
  refine (token_R w q p g l 0 false b 0 _ _ H.out HO.out (by decide) hbq hbp hbg hle (by have := HL.out; omega)).mono ?_
  rintro e w1 ⟨rfl, h1, h2, h3⟩
  have H1 := Lib.hid h1
  have H2 := Lib.hid h2
  have H3 := Lib.hid h3
  clear h1 h2 h3
  go_wp2_with fail
  refine (num_RL w1 q p g l _ _ 1 b 1 _ _ 1 9 0 H1.out (by unfold Wd; omega) (by omega) H2.out (by simp) hbq hbp hbg (by omega) hle (by have := HL.out; omega)).mono ?_
  rintro e w2 ⟨rfl, h1, h2, h3⟩
  have hc2 : CR w2 q p g l 3 (okN (okN false (nm l 0 2) 0 200) (nm l 2 1) 1 9) := by simpa using h1
  have row2 : w2.heap[b]? = some (.cells #[.int .i64 (nm l 0 2 : Int), .int .i64 (nm l 2 1 : Int), .int .i64 0, .int .i64 (-1), .int .i64 0, .int .i64 0] 53) := by simpa using h2
  have HF2 := Lib.hid (H3.out.trans h3)
  have HROW2 := Lib.hid row2
  have x1 := cell_of_row w2 b 1 _ _ _ row2
  have x2 := cell_of_row w2 b 2 _ _ _ row2
  have x3 := cell_of_row w2 b 3 _ _ _ row2
  obtain ⟨c0, c1, c2, c2f⟩ := cod_cells hc2.cod
  have HRB := Lib.hid (show pRB l = okN (okN (if nm l 2 1 ≤ 3 then okN (okN false (nm l 0 2) 0 200) (nm l 2 1) 1 9 else okN (okN (okN (okN false (nm l 0 2) 0 200) (nm l 2 1) 1 9) (nm l 3 4) 0 1) ((nm l 7 4 : Int) - 1) 0 65536) ((nm l 11 4 : Int) - 1) (-1) 65536) ((nm l 15 4 : Int) - 1) (-1) 65536 from rfl)
  generalize okN (okN false (nm l 0 2) 0 200) (nm l 2 1) 1 9 = b2 at hc2 c2 HRB
  have HC2 := Lib.hid hc2
  clear h1 h2 h3 row2 hc2 H1 H2 H3
  by_cases hk : nm l 2 1 ≤ 3
  · have hki : ((nm l 2 1 : Nat) : Int) ≤ 3 := by omega
    have hd : decide (((nm l 2 1 : Nat) : Int) ≤ 3) = true := decide_eq_true hki
    rw [if_pos hk] at HRB
    have HDE := Lib.hid (show pDec l = ⟨nm l 0 2, nm l 2 1, sgn (nm l 3 8), -1, (nm l 11 4 : Int) - 1, (nm l 15 4 : Int) - 1⟩ from if_pos hk)
    go_upto_region 3 with fail
    go_cut [] (fun wx => CR wx q p g l 3 b2 ∧ wx.heap[b]? = some (.cells #[.int .i64 (nm l 0 2 : Int), .int .i64 (nm l 2 1 : Int), .int .i64 0, .int .i64 (-1), .int .i64 0, .int .i64 0] 53) ∧ Fr [q, p, b] w wx)
    case first =>
      cases b2
      · go_wp2_with fail
        go_meet
        exact ⟨HC2.out.set false, ((Fr.refl [q] w2).setCell (p := ⟨q, 2, none⟩) (by simp) _).obj HROW2.out (by simp; exact hbq), HF2.out.setCell (by simp) _⟩
      · go_wp2_with fail
        go_meet
        exact ⟨HC2.out.set true, ((Fr.refl [q] w2).setCell (p := ⟨q, 2, none⟩) (by simp) _).obj HROW2.out (by simp; exact hbq), HF2.out.setCell (by simp) _⟩
    case rest =>
      obtain ⟨hc3, row3, hf3⟩ := hcut
      have HC3 := Lib.hid hc3
      have HROW3 := Lib.hid row3
      have HF3 := Lib.hid hf3
      clear x1 x2 x3 c0 c1 c2 c2f
      obtain ⟨c0, c1, c2, c2f⟩ := cod_cells hc3.cod
      clear hc3 row3 hf3 HC2 HROW2 HF2
      go_wp2_with fail
      refine (NumR8 wc p g l 3 HC3.out.rd (by omega) (by have := HL.out; omega)).mono ?_
      rintro e w4 ⟨rfl, hr, hf⟩
      have hrow := hf.obj HROW3.out (by simp; exact hbp)
      have HROW4 := Lib.hid hrow
      have HRD4 := Lib.hid hr
      have HCO4 := Lib.hid (hf.obj HC3.out.cod (by simp; exact hqp))
      have HF4 := Lib.hid (HF3.out.trans (hf.mono (by simp)))
      have y2 := cell_of_row w4 b 2 _ _ _ hrow
      have yf := frozen_of_row w4 b 2 _ _ hrow
      clear c0 c1 c2 c2f hr hf hrow
      go_wp2_with fail
      obtain ⟨w5, hw5⟩ : ∃ w5, w5 = w4.setCell ⟨b, 2, none⟩ (.int .i64 (wrap64 (U (nm l 3 8)))) := ⟨_, rfl⟩
      rw [← hw5]
      have hf5 : Fr [b] w4 w5 := by rw [hw5]; exact (Fr.refl _ _).setCell (by simp) _
      have row5 : w5.heap[b]? = some (.cells (List.toArray [.int .i64 (nm l 0 2 : Int), .int .i64 (nm l 2 1 : Int), .int .i64 (sgn (nm l 3 8)), .int .i64 (-1), .int .i64 0, .int .i64 0]) 53) := by rw [hw5, heap_setCell_same w4 b 2 _ _ _ HROW4.out]; rw [show sgn (nm l 3 8) = wrap64 (U (nm l 3 8)) from by unfold sgn wrap64; rw [IntKind.wrap_i64]]; rfl
      have hc5 : CR w5 q p g l 11 b2 := ⟨hf5.obj HCO4.out (by simp; exact Ne.symm hbq), HRD4.out.fr hf5 (by simp; exact Ne.symm hbp) (by simp; exact Ne.symm hbg), hqp, hqg'⟩
      have HROW5 := Lib.hid row5
      have HC5 := Lib.hid hc5
      have HF5 := Lib.hid (HF4.out.trans (hf5.mono (by simp)))
      clear hw5 row5 hc5 hf5 y2 yf
      refine (pointer_R w5 q p g l 11 b2 b 4 _ _ 65536 HC5.out HROW5.out (by simp) hbq hbp hbg hle (by have := HL.out; omega)).mono ?_
      rintro e w6 ⟨rfl, h1, h2, h3⟩
      have H6 := Lib.hid h1
      have HO6 := Lib.hid h2
      have HF6 := Lib.hid (HF5.out.trans h3)
      clear h1 h2 h3
      go_wp2_with fail
      refine (pointer_R w6 q p g l _ _ b 5 _ _ 65536 H6.out HO6.out (by simp) hbq hbp hbg hle (by have := HL.out; omega)).mono ?_
      rintro e w7 ⟨rfl, h1, h2, h3⟩
      have H7 := Lib.hid h1
      have HO7 := Lib.hid h2
      have HF7 := Lib.hid (HF6.out.trans h3)
      clear h1 h2 h3
      go_wp2
      go_end0
      refine ⟨rfl, ?_, ?_, HF7.out⟩
      · have := H7.out
        rw [HRB.out]
        simpa using this
      · have := HO7.out
        rw [HDE.out]
        simpa [PropV.cells] using this
  · have hki : ¬ ((nm l 2 1 : Nat) : Int) ≤ 3 := by omega
    have hd : decide (((nm l 2 1 : Nat) : Int) ≤ 3) = false := decide_eq_false hki
    rw [if_neg hk] at HRB
    have HDE := Lib.hid (show pDec l = ⟨nm l 0 2, nm l 2 1, 0, (nm l 7 4 : Int) - 1, (nm l 11 4 : Int) - 1, (nm l 15 4 : Int) - 1⟩ from if_neg hk)
    go_upto_region 8 with fail
    obtain ⟨w3, hw3⟩ : ∃ w3, w3 = w2.alloc (.cells #[.int .i64 0] 3) := ⟨_, rfl⟩
    rw [← hw3]
    have hf3 : Fr [] w2 w3 := by rw [hw3]; exact (Fr.refl _ _).alloc _
    have hno3 : w3.heap[w2.heap.size]? = some (.cells #[.int .i64 0] 3) := by rw [hw3]; exact heap_alloc_new w2 _
    have HNO3 := Lib.hid hno3
    have HC3 := Lib.hid (HC2.out.fr hf3 (by simp) (by simp) (by simp))
    have HROW3 := Lib.hid (hf3.obj HROW2.out (by simp))
    have HF3 := Lib.hid (HF2.out.trans (hf3.mono (by simp)))
    have hs2 := HF2.out.size
    have hnw : w.heap.size ≤ w2.heap.size := hs2
    clear hw3 hf3 hno3 c0 c1 c2 c2f x1 x2 x3 hs2
    generalize w2.heap.size = nb at hnw HNO3 ⊢
    go_wp2_with fail
    refine (num_RL w3 q p g l _ _ 4 nb 0 _ _ 0 1 0 HC3.out (by unfold Wd; omega) (by omega) HNO3.out (by simp) (by omega) (by omega) (by omega) (by omega) hle (by have := HL.out; omega)).mono ?_
    rintro e w4 ⟨rfl, h1, _, h3⟩
    have hc4 : CR w4 q p g l 7 (okN b2 (nm l 3 4) 0 1) := by simpa using h1
    have row4 := h3.obj HROW3.out (by simp; omega)
    have HF4 := Lib.hid ((HF3.out.mono (T := [q, p, b, nb]) (by intro i hi hlt; simp at hi ⊢; omega)).trans (h3.mono (T := [q, p, b, nb]) (by intro i hi hlt; simp at hi ⊢; omega)))
    have HF4' := Lib.hid (show Fr [q, p, b] w w4 from ⟨HF4.out.os, HF4.out.tape, HF4.out.output, HF4.out.size, fun k hk hn => HF4.out.block k hk (by simp at hn ⊢; omega)⟩)
    have x2 := cell_of_row w4 b 2 _ _ _ row4
    obtain ⟨c0, c1, c2, c2f⟩ := cod_cells hc4.cod
    have HROW4 := Lib.hid row4
    generalize okN b2 (nm l 3 4) 0 1 = b4 at hc4 c2 HRB
    have HC4 := Lib.hid hc4
    clear h1 h3 hc4 row4 HF4
    go_upto_region 9 with fail
    go_cut [] (fun wx => CR wx q p g l 7 b4 ∧ wx.heap[b]? = some (.cells #[.int .i64 (nm l 0 2 : Int), .int .i64 (nm l 2 1 : Int), .int .i64 0, .int .i64 (-1), .int .i64 0, .int .i64 0] 53) ∧ Fr [q, p, b] w wx)
    case first =>
      cases b4
      · go_wp2_with fail
        go_meet
        exact ⟨HC4.out.set false, ((Fr.refl [q] w4).setCell (p := ⟨q, 2, none⟩) (by simp) _).obj HROW4.out (by simp; exact hbq), HF4'.out.setCell (by simp) _⟩
      · go_wp2_with fail
        go_meet
        exact ⟨HC4.out.set true, ((Fr.refl [q] w4).setCell (p := ⟨q, 2, none⟩) (by simp) _).obj HROW4.out (by simp; exact hbq), HF4'.out.setCell (by simp) _⟩
    case rest =>
      obtain ⟨hc5, row5, hf5⟩ := hcut
      have HC5 := Lib.hid hc5
      have HROW5 := Lib.hid row5
      have HF5 := Lib.hid hf5
      clear hc5 row5 hf5 x2 c0 c1 c2 c2f
      go_wp2_with fail
      refine (num_RL wc q p g l 7 b4 4 b 3 _ _ 0 65536 1 HC5.out (by unfold Wd; omega) (by omega) HROW5.out (by simp) hbq hbp hbg (by omega) hle (by have := HL.out; omega)).mono ?_
      rintro e w6 ⟨rfl, h1, h2, h3⟩
      have H6 := Lib.hid h1
      have HO6 := Lib.hid h2
      have HF6 := Lib.hid (HF5.out.trans h3)
      clear h1 h2 h3
      go_wp2_with fail
      refine (pointer_R w6 q p g l _ _ b 4 _ _ 65536 H6.out HO6.out (by simp) hbq hbp hbg hle (by have := HL.out; omega)).mono ?_
      rintro e w7 ⟨rfl, h1, h2, h3⟩
      have H7 := Lib.hid h1
      have HO7 := Lib.hid h2
      have HF7 := Lib.hid (HF6.out.trans h3)
      clear h1 h2 h3
      go_wp2_with fail
      refine (pointer_R w7 q p g l _ _ b 5 _ _ 65536 H7.out HO7.out (by simp) hbq hbp hbg hle (by have := HL.out; omega)).mono ?_
      rintro e w8 ⟨rfl, h1, h2, h3⟩
      have H8 := Lib.hid h1
      have HO8 := Lib.hid h2
      have HF8 := Lib.hid (HF7.out.trans h3)
      clear h1 h2 h3
      go_wp2
      go_end0
      refine ⟨rfl, ?_, ?_, HF8.out⟩
      · have := H8.out
        rw [HRB.out]
        simpa using this
      · have := HO8.out
        rw [HDE.out]
        simpa [PropV.cells] using this

/-- the record that is read, and the error's number -/
def errPo (l : List UInt8) : Int := if l.length = 19 then (if pRB l then 41 else 0) else 4
theorem errPo_size {l : List UInt8} (h : l.length ≠ 19) : errPo l = 4 := if_neg h
theorem errPo_bad {l : List UInt8} (h : l.length = 19) (hb : pRB l = true) : errPo l = 41 := by unfold errPo; rw [if_pos h, if_pos hb]
theorem errPo_ok {l : List UInt8} (h : l.length = 19) (hb : pRB l = false) : errPo l = 0 := by unfold errPo; rw [if_pos h, if_neg (by rw [hb]; simp)]
theorem errPo_0 {l : List UInt8} (h : errPo l = 0) : l.length = 19 ∧ pRB l = false := by
  unfold errPo at h
  by_cases h1 : l.length = 19
  · refine ⟨h1, ?_⟩
    cases hb : pRB l
    · rfl
    · rw [if_pos h1, if_pos hb] at h; cases h
  · rw [if_neg h1] at h; cases h
/-- what a reading gives -/
def GetPo (w : World) (l : List UInt8) (w' : World) (x : Value) : Prop :=
  ∃ v, x = .tuple #[v, .int .i64 (errPo l)] ∧ Fr [] w w' ∧ if errPo l = 0 then v = .agg (pDec l).cells.toArray else v = zPo
set_option maxRecDepth 100000 in
set_option maxHeartbeats 1600000 in
theorem getPo_any (w : World) (a : Option Addr) (c : Nat) (l : List UInt8) (hb : Bytes w a l) :
    Calls Try.prog 46 #[.slice a l.length c, .int .i64 19, .agg #[.int .i64 0, .int .i64 0, .int .i64 0, .int .i64 (-1), .int .i64 0, .int .i64 0], .func (.func 44) #[] #[]] w fun e w' => ∃ x, e = .returned x ∧ GetPo w l w' x := by
  have HB := Lib.hid hb
  clear hb
  go_enter Try.func46, Try.ntmps46
  go_upto_region 2 with fail
  obtain ⟨w3, hw3⟩ : ∃ w3, w3 = ((w.alloc (.cells #[.int .i64 0, .int .i64 0, .int .i64 0, .int .i64 (-1), .int .i64 0, .int .i64 0] 53)).alloc (.cells #[.int .i64 0, .int .i64 0, .int .i64 0, .int .i64 0, .int .i64 0, .int .i64 0] 53)).alloc (.cells #[.int .i64 0, .int .i64 0, .int .i64 0, .int .i64 0, .int .i64 0, .int .i64 0] 53) := ⟨_, rfl⟩
  rw [← hw3]
  have hf3 : Fr [] w w3 := by rw [hw3]; exact (((Fr.refl _ _).alloc _).alloc _).alloc _
  have o0 : w3.heap[w.heap.size]? = some (.cells #[.int .i64 0, .int .i64 0, .int .i64 0, .int .i64 (-1), .int .i64 0, .int .i64 0] 53) := by
    rw [hw3]; exact (((Fr.refl [] _).alloc _).alloc _).obj (heap_alloc_new w _) (by simp)
  have o1 : w3.heap[w.heap.size + 1]? = some (.cells #[.int .i64 0, .int .i64 0, .int .i64 0, .int .i64 0, .int .i64 0, .int .i64 0] 53) := by
    rw [hw3]
    have h := ((Fr.refl [] _).alloc (.cells #[.int .i64 0, .int .i64 0, .int .i64 0, .int .i64 0, .int .i64 0, .int .i64 0] 53)).obj (heap_alloc_new (w.alloc (.cells #[.int .i64 0, .int .i64 0, .int .i64 0, .int .i64 (-1), .int .i64 0, .int .i64 0] 53)) (.cells #[.int .i64 0, .int .i64 0, .int .i64 0, .int .i64 0, .int .i64 0, .int .i64 0] 53)) (by simp)
    simpa using h
  have o2 : w3.heap[w.heap.size + 1 + 1]? = some (.cells #[.int .i64 0, .int .i64 0, .int .i64 0, .int .i64 0, .int .i64 0, .int .i64 0] 53) := by
    rw [hw3]
    have h := heap_alloc_new ((w.alloc (.cells #[.int .i64 0, .int .i64 0, .int .i64 0, .int .i64 (-1), .int .i64 0, .int .i64 0] 53)).alloc (.cells #[.int .i64 0, .int .i64 0, .int .i64 0, .int .i64 0, .int .i64 0, .int .i64 0] 53)) (.cells #[.int .i64 0, .int .i64 0, .int .i64 0, .int .i64 0, .int .i64 0, .int .i64 0] 53)
    simpa using h
  have hs3 : w3.heap.size = w.heap.size + 3 := by rw [hw3]; simp
  have HF3 := Lib.hid hf3
  clear hf3 hw3
  by_cases hlen : l.length = 19
  · have hbb : ((l.length : Int) != 19) = false := by rw [bne_eq_false_iff_eq]; omega
    have HL := Lib.hid hlen
    have O0 := Lib.hid o0
    have O1 := Lib.hid o1
    have O2 := Lib.hid o2
    have HS := Lib.hid hs3
    clear o0 o1 o2 hlen hs3
    go_wp2_with fail
    refine (NewR a c l _ (by rw [HL.out]; omega) (by rw [HL.out]; omega) (HB.out.keep HF3.out)).mono ?_
    rintro e w4 ⟨p, g, rfl, hr, hg, hgp, hf⟩
    have hs3 := HS.out
    have hbg : w.heap.size + 2 < g := by omega
    clear hs3 hg
    have HR4 := Lib.hid hr
    have HF4 := Lib.hid hf
    have HP4 := Lib.hid hr.lt
    clear hr hf
    go_wp2_with fail
    obtain ⟨w5, hw5⟩ : ∃ w5, w5 = w4.alloc (.cells #[.pointer none, .pointer (some ⟨p, 0, none⟩), .bool false] 96) := ⟨_, rfl⟩
    rw [← hw5]
    have hf5 : Fr [] w4 w5 := by rw [hw5]; exact (Fr.refl _ _).alloc _
    have hc5 : CR w5 w4.heap.size p g l 0 false := by
      have := HP4.out
      refine ⟨by rw [hw5]; exact heap_alloc_new w4 _, HR4.out.fr hf5 (by simp) (by simp), by omega, by omega⟩
    have HC5 := Lib.hid hc5
    have hq : p < w4.heap.size := HP4.out
    have HF5 := Lib.hid (HF4.out.trans hf5)
    have hs5 : w4.heap.size < w5.heap.size := by rw [hw5]; simp
    clear hw5 hc5 hf5 HR4
    generalize w4.heap.size = q at HC5 hq hs5 ⊢
    refine (prop_R w5 q p g w.heap.size l HC5.out (HF5.out.obj O0.out (by simp)) (by omega) (by omega) (by omega) (by omega) HL.out).mono ?_
    rintro e w6 ⟨rfl, h1, h2, h3⟩
    have HC6 := Lib.hid h1
    have h2x : w6.heap[w.heap.size]? = some (.cells #[.int .i64 (pDec l).key, .int .i64 (pDec l).kind, .int .i64 (pDec l).num, .int .i64 (pDec l).blob, .int .i64 (pDec l).prev, .int .i64 (pDec l).next] 53) := h2
    have HB6 := Lib.hid h2x
    clear h2x
    have k1 := h3.obj (HF5.out.obj O1.out (by simp)) (by simp; omega)
    have k2 := h3.obj (HF5.out.obj O2.out (by simp)) (by simp; omega)
    have hf6 : Fr [] w w6 := HF3.out.next ((HF5.out.mono (T := [q, p, w.heap.size]) (by simp)).trans h3) (by intro i hi; simp at hi; have := HS.out; omega)
    have HF6 := Lib.hid hf6
    obtain ⟨c0, c1, c2, c2f⟩ := cod_cells h1.cod
    have K1 := Lib.hid k1
    clear h1 h2 h3 hf6
    have z0 := cell_of_row w6 _ 0 _ _ _ k1
    have z1 := cell_of_row w6 _ 1 _ _ _ k1
    have z2 := cell_of_row w6 _ 2 _ _ _ k1
    have z3 := cell_of_row w6 _ 3 _ _ _ k1
    have z4 := cell_of_row w6 _ 4 _ _ _ k1
    have z5 := cell_of_row w6 _ 5 _ _ _ k1
    have zf0 := frozen_of_row w6 _ 0 _ _ k1
    have zf1 := frozen_of_row w6 _ 1 _ _ k1
    have zf2 := frozen_of_row w6 _ 2 _ _ k1
    have zf3 := frozen_of_row w6 _ 3 _ _ k1
    have zf4 := frozen_of_row w6 _ 4 _ _ k1
    have zf5 := frozen_of_row w6 _ 5 _ _ k1
    clear k1
    cases hbad : pRB l
    · rw [hbad] at c2
      have HBAD := Lib.hid hbad
      clear hbad k2
      have x0 := cell_of_row w6 _ 0 _ _ _ HB6.out
      have x1 := cell_of_row w6 _ 1 _ _ _ HB6.out
      have x2 := cell_of_row w6 _ 2 _ _ _ HB6.out
      have x3 := cell_of_row w6 _ 3 _ _ _ HB6.out
      have x4 := cell_of_row w6 _ 4 _ _ _ HB6.out
      have x5 := cell_of_row w6 _ 5 _ _ _ HB6.out
      go_wp2
      refine bodyPost_ret (v := .tuple #[.agg #[.int .i64 (pDec l).key, .int .i64 (pDec l).kind, .int .i64 (pDec l).num, .int .i64 (pDec l).blob, .int .i64 (pDec l).prev, .int .i64 (pDec l).next], .int .i64 0]) ?_ rfl ⟨_, rfl, _, by rw [errPo_ok HL.out HBAD.out], Fr.setCells (by simp) [.int .i64 (pDec l).key, .int .i64 (pDec l).kind, .int .i64 (pDec l).num, .int .i64 (pDec l).blob, .int .i64 (pDec l).prev, .int .i64 (pDec l).next] 0 _ HF6.out, by rw [if_pos (errPo_ok HL.out HBAD.out)]; rfl⟩
      exact results_row Try.results46 _ _ (w.heap.size + 1) 53 _ _ _ rfl rfl (obj_setCells K1.out [.int .i64 (pDec l).key, .int .i64 (pDec l).kind, .int .i64 (pDec l).num, .int .i64 (pDec l).blob, .int .i64 (pDec l).prev, .int .i64 (pDec l).next] rfl) Try.underlying53 rfl infoPo
    · rw [hbad] at c2
      have HBAD := Lib.hid hbad
      clear hbad
      have x0 := cell_of_row w6 _ 0 _ _ _ k2
      have x1 := cell_of_row w6 _ 1 _ _ _ k2
      have x2 := cell_of_row w6 _ 2 _ _ _ k2
      have x3 := cell_of_row w6 _ 3 _ _ _ k2
      have x4 := cell_of_row w6 _ 4 _ _ _ k2
      have x5 := cell_of_row w6 _ 5 _ _ _ k2
      clear k2
      go_wp2
      refine bodyPost_ret (v := .tuple #[zPo, .int .i64 41]) ?_ rfl ⟨_, rfl, _, by rw [errPo_bad HL.out HBAD.out], Fr.setCells (by simp) [.int .i64 0, .int .i64 0, .int .i64 0, .int .i64 0, .int .i64 0, .int .i64 0] 0 _ HF6.out, by rw [if_neg (by rw [errPo_bad HL.out HBAD.out]; decide)]⟩
      exact results_row Try.results46 _ _ (w.heap.size + 1) 53 _ _ _ rfl rfl (obj_setCells K1.out [.int .i64 0, .int .i64 0, .int .i64 0, .int .i64 0, .int .i64 0, .int .i64 0] rfl) Try.underlying53 rfl infoPo
  · have hbb : ((l.length : Int) != 19) = true := by rw [bne_iff_ne]; omega
    have HL := Lib.hid hlen
    have x0 := cell_of_row w3 _ 0 _ _ _ o2
    have x1 := cell_of_row w3 _ 1 _ _ _ o2
    have x2 := cell_of_row w3 _ 2 _ _ _ o2
    have x3 := cell_of_row w3 _ 3 _ _ _ o2
    have x4 := cell_of_row w3 _ 4 _ _ _ o2
    have x5 := cell_of_row w3 _ 5 _ _ _ o2
    have z0 := cell_of_row w3 _ 0 _ _ _ o1
    have z1 := cell_of_row w3 _ 1 _ _ _ o1
    have z2 := cell_of_row w3 _ 2 _ _ _ o1
    have z3 := cell_of_row w3 _ 3 _ _ _ o1
    have z4 := cell_of_row w3 _ 4 _ _ _ o1
    have z5 := cell_of_row w3 _ 5 _ _ _ o1
    have zf0 := frozen_of_row w3 _ 0 _ _ o1
    have zf1 := frozen_of_row w3 _ 1 _ _ o1
    have zf2 := frozen_of_row w3 _ 2 _ _ o1
    have zf3 := frozen_of_row w3 _ 3 _ _ o1
    have zf4 := frozen_of_row w3 _ 4 _ _ o1
    have zf5 := frozen_of_row w3 _ 5 _ _ o1
    have K1 := Lib.hid o1
    clear o0 o1 o2 hlen hs3
    go_wp2
    refine bodyPost_ret (v := .tuple #[zPo, .int .i64 4]) ?_ rfl ⟨_, rfl, _, by rw [errPo_size HL.out], Fr.setCells (by simp) [.int .i64 0, .int .i64 0, .int .i64 0, .int .i64 0, .int .i64 0, .int .i64 0] 0 _ HF3.out, by rw [if_neg (by rw [errPo_size HL.out]; decide)]⟩
    exact results_row Try.results46 _ _ (w.heap.size + 1) 53 _ _ _ rfl rfl (obj_setCells K1.out [.int .i64 0, .int .i64 0, .int .i64 0, .int .i64 0, .int .i64 0, .int .i64 0] rfl) Try.underlying53 rfl infoPo

theorem getPo_form {w w' : World} {l : List UInt8} {x : Value} (h : GetPo w l w' x) : ∃ n0 n1 n2 n3 n4 n5, x = .tuple #[.agg #[.int .i64 n0, .int .i64 n1, .int .i64 n2, .int .i64 n3, .int .i64 n4, .int .i64 n5], .int .i64 (errPo l)] ∧ Fr [] w w' ∧ if errPo l = 0 then (.agg #[.int .i64 n0, .int .i64 n1, .int .i64 n2, .int .i64 n3, .int .i64 n4, .int .i64 n5] : Value) = .agg (pDec l).cells.toArray else (.agg #[.int .i64 n0, .int .i64 n1, .int .i64 n2, .int .i64 n3, .int .i64 n4, .int .i64 n5] : Value) = zPo := by
  obtain ⟨v, rfl, hf, hv⟩ := h
  by_cases he : errPo l = 0
  · rw [if_pos he] at hv
    subst hv
    exact ⟨_, _, _, _, _, _, rfl, hf, by rw [if_pos he]; rfl⟩
  · rw [if_neg he] at hv
    subst hv
    exact ⟨_, _, _, _, _, _, rfl, hf, by rw [if_neg he]; rfl⟩

set_option maxRecDepth 100000 in
set_option maxHeartbeats 1600000 in
/-- the exported call -/
theorem GetPo_any (w : World) (a : Option Addr) (c : Nat) (l : List UInt8) (hb : Bytes w a l) :
    Calls Try.prog 24 #[.slice a l.length c] w fun e w' => ∃ x, e = .returned x ∧ GetPo w l w' x := by
  have HB := Lib.hid hb
  clear hb
  go_enter Try.func24, Try.ntmps24
  go_wp2_with fail
  obtain ⟨w1, hw1⟩ : ∃ w1, w1 = w.alloc (.cells #[.int .i64 0, .int .i64 0, .int .i64 0, .int .i64 0, .int .i64 0, .int .i64 0] 53) := ⟨_, rfl⟩
  rw [← hw1]
  have hf1 : Fr [] w w1 := by rw [hw1]; exact (Fr.refl _ _).alloc _
  have ho1 : w1.heap[w.heap.size]? = some (.cells #[.int .i64 0, .int .i64 0, .int .i64 0, .int .i64 0, .int .i64 0, .int .i64 0] 53) := by rw [hw1]; exact heap_alloc_new w _
  have HF1 := Lib.hid hf1
  have HO1 := Lib.hid ho1
  clear hw1 hf1 ho1
  refine (getPo_any w1 a c l (HB.out.keep HF1.out)).mono ?_
  rintro e w2 ⟨x, rfl, hg⟩
  obtain ⟨n0, n1, n2, n3, n4, n5, rfl, hf2, hP⟩ := getPo_form hg
  have HG := Lib.hid hP
  have hz2 := hf2.obj HO1.out (by simp)
  have z0 := cell_of_row w2 _ 0 _ _ _ hz2
  have z1 := cell_of_row w2 _ 1 _ _ _ hz2
  have z2 := cell_of_row w2 _ 2 _ _ _ hz2
  have z3 := cell_of_row w2 _ 3 _ _ _ hz2
  have z4 := cell_of_row w2 _ 4 _ _ _ hz2
  have z5 := cell_of_row w2 _ 5 _ _ _ hz2
  have zf0 := frozen_of_row w2 _ 0 _ _ hz2
  have zf1 := frozen_of_row w2 _ 1 _ _ hz2
  have zf2 := frozen_of_row w2 _ 2 _ _ hz2
  have zf3 := frozen_of_row w2 _ 3 _ _ hz2
  have zf4 := frozen_of_row w2 _ 4 _ _ hz2
  have zf5 := frozen_of_row w2 _ 5 _ _ hz2
  have K2 := Lib.hid hz2
  have HF2 := Lib.hid (HF1.out.trans hf2)
  have hlt := (Array.getElem?_eq_some_iff.1 HO1.out).1
  clear hg hf2 hz2 hP
  generalize hE : errPo l = E at HG ⊢
  have HE := Lib.hid hE
  clear hE
  go_wp2
  refine bodyPost_ret (v := .tuple #[.agg #[.int .i64 n0, .int .i64 n1, .int .i64 n2, .int .i64 n3, .int .i64 n4, .int .i64 n5], .int .i64 E]) ?_ rfl ⟨_, rfl, _, by rw [HE.out], Fr.setCells (by simp) [.int .i64 n0, .int .i64 n1, .int .i64 n2, .int .i64 n3, .int .i64 n4, .int .i64 n5] 0 _ HF2.out, by rw [HE.out]; exact HG.out⟩
  exact results_row Try.results24 _ _ w.heap.size 53 _ _ _ rfl rfl (obj_setCells K2.out [.int .i64 n0, .int .i64 n1, .int .i64 n2, .int .i64 n3, .int .i64 n4, .int .i64 n5] rfl) Try.underlying53 rfl infoPo
end Go.Proofs.Ytbhmfbhfofgfaaa
