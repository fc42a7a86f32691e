/- Version 1: put and get of a relationship. -/
import Derived.Test.YtbhmfbhfofgfaaaOneC
import Derived.Laws.ResultCell
import Derived.Laws.IdiomCopy
namespace Go.Proofs.Ytbhmfbhfofgfaaa
open Go.RowKit

theorem infoRo : (Try.prog.info? 25).map (·.size) = some 9 := by kernel_rfl
def zRo : Value := .agg #[.bool false, .int .i64 0, .int .i64 0, .int .i64 0, .int .i64 0, .int .i64 0, .int .i64 0, .int .i64 0, .int .i64 0]
/-- what a writing gives -/
def PutRo (w w' : World) (e : Ending) (bad : Bool) (l : List UInt8) : Prop :=
  if bad then e = .returned (.tuple #[.slice none 0 0, .int .i64 41]) ∧ Fr [] w w' else ∃ v, e = .returned (.tuple #[v, .int .i64 0]) ∧ Fresh w.heap.size w w' v l
theorem PutRo.yes {w w' : World} {e : Ending} {bad : Bool} {l : List UInt8} {v : Value} (hb : bad = false) (he : e = .returned (.tuple #[v, .int .i64 0])) (h : Fresh w.heap.size w w' v l) : PutRo w w' e bad l := by
  unfold PutRo; rw [if_neg (by rw [hb]; simp)]; exact ⟨v, he, h⟩
theorem PutRo.no {w w' : World} {e : Ending} {bad : Bool} {l : List UInt8} (hb : bad = true) (he : e = .returned (.tuple #[.slice none 0 0, .int .i64 41])) (h : Fr [] w w') : PutRo w w' e bad l := by
  unfold PutRo; rw [if_pos hb]; exact ⟨he, h⟩
theorem PutRo.get {w w' : World} {e : Ending} {bad : Bool} {l : List UInt8} (h : PutRo w w' e bad l) : (bad = true ∧ e = .returned (.tuple #[.slice none 0 0, .int .i64 41]) ∧ Fr [] w w') ∨ (bad = false ∧ ∃ v, e = .returned (.tuple #[v, .int .i64 0]) ∧ Fresh w.heap.size w w' v l) := by
  unfold PutRo at h
  cases bad
  · exact .inr ⟨rfl, h⟩
  · exact .inl ⟨rfl, h⟩
set_option maxRecDepth 100000 in
set_option maxHeartbeats 1600000 in
theorem putRo_any (w : World) (b : Nat) (lv : Bool) (fr tu fp tp fn tn ty pr : Int) (hr : w.heap[b]? = some (.cells #[.bool lv, .int .i64 fr, .int .i64 tu, .int .i64 fp, .int .i64 tp, .int .i64 fn, .int .i64 tn, .int .i64 ty, .int .i64 pr] 25)) :
    Calls Try.prog 26 #[.pointer (some ⟨b, 0, none⟩), .func (.func 27) #[] #[]] w fun e w' => PutRo w w' e (oBad ⟨lv, fr, tu, fp, tp, fn, tn, ty, pr⟩) (oU ⟨lv, fr, tu, fp, tp, fn, tn, ty, pr⟩) := by
  have HR := Lib.hid hr

  clear hr
  go_enter Try.func26, Try.ntmps26
  go_wp2_with fail
  refine (NewWriter_any w).mono ?_
  rintro e w1 ⟨rfl, h1, h2, h3⟩
  obtain ⟨p, hp⟩ : ∃ p, p = w.heap.size := ⟨_, rfl⟩
  rw [← hp] at h1 ⊢
  obtain ⟨w2, hw2⟩ : ∃ w2, w2 = w1.alloc (.cells #[.pointer (some ⟨p, 0, none⟩), .pointer none, .bool false] 96) := ⟨_, rfl⟩
  have hC2 : CW w w2 w1.heap.size p [] false := by
    rw [hw2]
    exact ⟨heap_alloc_new w1 _, ⟨.slice none 0 0, ((Fr.refl [] w1).alloc _).obj h1 (by simp), World.ownsRow_nil _ _ _ _⟩, by omega, by omega, h2.alloc _⟩
  have HC2 := Lib.hid hC2
  have HW2 := Lib.hid hw2
  clear h1 h2 h3 hC2 hp hw2
  go_wp2_with fail
  rw [← HW2.out]
  clear HW2
  generalize w1.heap.size = q at HC2
  refine (rel_W w w2 q p b 25 ⟨lv, fr, tu, fp, tp, fn, tn, ty, pr⟩ HC2.out HR.out).mono ?_
  rintro e w3 ⟨rfl, h1⟩
  have HC3 := Lib.hid h1
  obtain ⟨c0, c1, c2, c2f⟩ := cod_cells h1.cod
  have hlt := h1.lt
  obtain ⟨l, hl⟩ : ∃ l, l = oU ⟨lv, fr, tu, fp, tp, fn, tn, ty, pr⟩ := ⟨_, rfl⟩
  have hln : l.length = 30 := by rw [hl]; simp only [oU, List.length_append, by8_length, ptrsU_length, ptrU_length, List.length_cons, List.length_nil]
  have HLN := Lib.hid hln
  have HL := Lib.hid hl
  clear h1 hln
  rw [← hl] at HC3
  clear hl
  cases hbad : oBad ⟨lv, fr, tu, fp, tp, fn, tn, ty, pr⟩
  · have HB := Lib.hid hbad
    rw [hbad] at c2 HC3
    clear hbad
    go_wp2_with fail
    have h1 := HC3.out
    obtain ⟨v, a1, a2⟩ := h1.ex
    have ht : Wtr w w3 p l := ⟨⟨v, a1, own_base a2 (by have := h1.lo; have := h1.pq; omega), fun e => by have := (own_lt a2 e).1; have := h1.pq; omega⟩, h1.lo, h1.fr⟩
    refine (BytesW w w3 p _ ht (by rw [HLN.out]; omega)).mono ?_
    rintro e w4 ⟨u, rfl, hg⟩
    have HF4 := Lib.hid (hg.fresh (by rw [HLN.out]; omega))
    have HW3 := Lib.hid ht.fr
    clear h1 a1 a2 ht hg
    go_wp2
    go_ret2
    exact PutRo.yes HB.out rfl (HL.out ▸ HF4.out.base HW3.out HW3.out.size)
  · have HB := Lib.hid hbad
    rw [hbad] at c2 HC3
    clear hbad
    go_wp2_with fail
    go_ret2
    exact PutRo.no HB.out rfl HC3.out.fr
/-- the exported call -/
theorem PutRo_any (w : World) (lv : Bool) (fr tu fp tp fn tn ty pr : Int) :
    Calls Try.prog 11 #[.agg #[.bool lv, .int .i64 fr, .int .i64 tu, .int .i64 fp, .int .i64 tp, .int .i64 fn, .int .i64 tn, .int .i64 ty, .int .i64 pr]] w fun e w' => PutRo w w' e (oBad ⟨lv, fr, tu, fp, tp, fn, tn, ty, pr⟩) (oU ⟨lv, fr, tu, fp, tp, fn, tn, ty, pr⟩) := by


  go_enter Try.func11, Try.ntmps11
  go_wp2_with fail
  obtain ⟨w1, hw1⟩ : ∃ w1, w1 = w.alloc (.cells #[.bool lv, .int .i64 fr, .int .i64 tu, .int .i64 fp, .int .i64 tp, .int .i64 fn, .int .i64 tn, .int .i64 ty, .int .i64 pr] 25) := ⟨_, rfl⟩
  rw [← hw1]
  have hf : Fr [] w w1 := by rw [hw1]; exact (Fr.refl _ _).alloc _
  have hb : w1.heap[w.heap.size]? = some (.cells #[.bool lv, .int .i64 fr, .int .i64 tu, .int .i64 fp, .int .i64 tp, .int .i64 fn, .int .i64 tn, .int .i64 ty, .int .i64 pr] 25) := by rw [hw1]; exact heap_alloc_new w _
  have HF := Lib.hid hf
  have HB := Lib.hid hb
  clear hw1 hf hb
  refine (putRo_any w1 w.heap.size lv fr tu fp tp fn tn ty pr HB.out).mono ?_
  intro e w2 hp
  rcases hp.get with ⟨hb, rfl, hfr⟩ | ⟨hb, v, rfl, hfr⟩
  · have HG := Lib.hid (HF.out.trans hfr)
    have HB2 := Lib.hid hb
    clear hfr hb hp
    go_wp2
    go_ret2
    exact PutRo.no HB2.out rfl HG.out
  · have HG := Lib.hid (hfr.base HF.out HF.out.size)
    have HB2 := Lib.hid hb
    obtain ⟨a, n, c, rfl⟩ : ∃ a n c, v = .slice a n c := by
      obtain ⟨g, c, rfl, _⟩ := hfr
      exact ⟨_, _, _, rfl⟩
    clear hfr hb hp
    go_wp2
    go_ret2
    exact PutRo.yes HB2.out rfl HG.out

/-- the record that is read, and the error's number -/
def errRo (l : List UInt8) : Int := if l.length = 30 then (if oBad (oDec l) then 41 else 0) else 4
theorem errRo_size {l : List UInt8} (h : l.length ≠ 30) : errRo l = 4 := if_neg h
theorem errRo_bad {l : List UInt8} (h : l.length = 30) (hb : oBad (oDec l) = true) : errRo l = 41 := by unfold errRo; rw [if_pos h, if_pos hb]
theorem errRo_ok {l : List UInt8} (h : l.length = 30) (hb : oBad (oDec l) = false) : errRo l = 0 := by unfold errRo; rw [if_pos h, if_neg (by rw [hb]; simp)]
theorem errRo_0 {l : List UInt8} (h : errRo l = 0) : l.length = 30 ∧ oBad (oDec l) = false := by
  unfold errRo at h
  by_cases h1 : l.length = 30
  · refine ⟨h1, ?_⟩
    cases hb : oBad (oDec l)
    · rfl
    · rw [if_pos h1, if_pos hb] at h; cases h
  · rw [if_neg h1] at h; cases h
/-- what a reading gives -/
def GetRo (w : World) (l : List UInt8) (w' : World) (x : Value) : Prop :=
  ∃ v, x = .tuple #[v, .int .i64 (errRo l)] ∧ Fr [] w w' ∧ if errRo l = 0 then v = .agg (oDec l).cells.toArray else v = zRo
set_option maxRecDepth 100000 in
set_option maxHeartbeats 1600000 in
theorem getRo_any (w : World) (a : Option Addr) (c : Nat) (l : List UInt8) (hb : Bytes w a l) :
    Calls Try.prog 33 #[.slice a l.length c, .int .i64 30, .agg #[.bool true, .int .i64 0, .int .i64 0, .int .i64 0, .int .i64 0, .int .i64 0, .int .i64 0, .int .i64 0, .int .i64 0], .func (.func 27) #[] #[]] w fun e w' => ∃ x, e = .returned x ∧ GetRo w l w' x := by
  have HB := Lib.hid hb
  clear hb
  go_enter Try.func33, Try.ntmps33
  go_upto_region 2 with fail
  obtain ⟨w3, hw3⟩ : ∃ w3, w3 = ((w.alloc (.cells #[.bool true, .int .i64 0, .int .i64 0, .int .i64 0, .int .i64 0, .int .i64 0, .int .i64 0, .int .i64 0, .int .i64 0] 25)).alloc (.cells #[.bool false, .int .i64 0, .int .i64 0, .int .i64 0, .int .i64 0, .int .i64 0, .int .i64 0, .int .i64 0, .int .i64 0] 25)).alloc (.cells #[.bool false, .int .i64 0, .int .i64 0, .int .i64 0, .int .i64 0, .int .i64 0, .int .i64 0, .int .i64 0, .int .i64 0] 25) := ⟨_, rfl⟩
  rw [← hw3]
  have hf3 : Fr [] w w3 := by rw [hw3]; exact (((Fr.refl _ _).alloc _).alloc _).alloc _
  have o0 : w3.heap[w.heap.size]? = some (.cells #[.bool true, .int .i64 0, .int .i64 0, .int .i64 0, .int .i64 0, .int .i64 0, .int .i64 0, .int .i64 0, .int .i64 0] 25) := by
    rw [hw3]; exact (((Fr.refl [] _).alloc _).alloc _).obj (heap_alloc_new w _) (by simp)
  have o1 : w3.heap[w.heap.size + 1]? = some (.cells #[.bool false, .int .i64 0, .int .i64 0, .int .i64 0, .int .i64 0, .int .i64 0, .int .i64 0, .int .i64 0, .int .i64 0] 25) := by
    rw [hw3]
    have h := ((Fr.refl [] _).alloc (.cells #[.bool false, .int .i64 0, .int .i64 0, .int .i64 0, .int .i64 0, .int .i64 0, .int .i64 0, .int .i64 0, .int .i64 0] 25)).obj (heap_alloc_new (w.alloc (.cells #[.bool true, .int .i64 0, .int .i64 0, .int .i64 0, .int .i64 0, .int .i64 0, .int .i64 0, .int .i64 0, .int .i64 0] 25)) (.cells #[.bool false, .int .i64 0, .int .i64 0, .int .i64 0, .int .i64 0, .int .i64 0, .int .i64 0, .int .i64 0, .int .i64 0] 25)) (by simp)
    simpa using h
  have o2 : w3.heap[w.heap.size + 1 + 1]? = some (.cells #[.bool false, .int .i64 0, .int .i64 0, .int .i64 0, .int .i64 0, .int .i64 0, .int .i64 0, .int .i64 0, .int .i64 0] 25) := by
    rw [hw3]
    have h := heap_alloc_new ((w.alloc (.cells #[.bool true, .int .i64 0, .int .i64 0, .int .i64 0, .int .i64 0, .int .i64 0, .int .i64 0, .int .i64 0, .int .i64 0] 25)).alloc (.cells #[.bool false, .int .i64 0, .int .i64 0, .int .i64 0, .int .i64 0, .int .i64 0, .int .i64 0, .int .i64 0, .int .i64 0] 25)) (.cells #[.bool false, .int .i64 0, .int .i64 0, .int .i64 0, .int .i64 0, .int .i64 0, .int .i64 0, .int .i64 0, .int .i64 0] 25)
    simpa using h
  have hs3 : w3.heap.size = w.heap.size + 3 := by rw [hw3]; simp
  have HF3 := Lib.hid hf3
  clear hf3 hw3
  by_cases hlen : l.length = 30
  · have hbb : ((l.length : Int) != 30) = false := by rw [bne_eq_false_iff_eq]; omega
    have HL := Lib.hid hlen
    have O0 := Lib.hid o0
    have O1 := Lib.hid o1
    have O2 := Lib.hid o2
    have HS := Lib.hid hs3
    clear o0 o1 o2 hlen hs3
    go_wp2_with fail
    refine (NewR a c l _ (by rw [HL.out]; omega) (by rw [HL.out]; omega) (HB.out.keep HF3.out)).mono ?_
    rintro e w4 ⟨p, g, rfl, hr, hg, hgp, hf⟩
    have hs3 := HS.out
    have hbg : w.heap.size + 2 < g := by omega
    clear hs3 hg
    have HR4 := Lib.hid hr
    have HF4 := Lib.hid hf
    have HP4 := Lib.hid hr.lt
    clear hr hf
    go_wp2_with fail
    obtain ⟨w5, hw5⟩ : ∃ w5, w5 = w4.alloc (.cells #[.pointer none, .pointer (some ⟨p, 0, none⟩), .bool false] 96) := ⟨_, rfl⟩
    rw [← hw5]
    have hf5 : Fr [] w4 w5 := by rw [hw5]; exact (Fr.refl _ _).alloc _
    have hc5 : CR w5 w4.heap.size p g l 0 false := by
      have := HP4.out
      refine ⟨by rw [hw5]; exact heap_alloc_new w4 _, HR4.out.fr hf5 (by simp) (by simp), by omega, by omega⟩
    have HC5 := Lib.hid hc5
    have hq : p < w4.heap.size := HP4.out
    have HF5 := Lib.hid (HF4.out.trans hf5)
    have hs5 : w4.heap.size < w5.heap.size := by rw [hw5]; simp
    clear hw5 hc5 hf5 HR4
    generalize w4.heap.size = q at HC5 hq hs5 ⊢
    refine (rel_R w5 q p g w.heap.size l HC5.out (HF5.out.obj O0.out (by simp)) (by omega) (by omega) (by omega) (by omega) HL.out).mono ?_
    rintro e w6 ⟨rfl, h1, h2, h3⟩
    have HC6 := Lib.hid h1
    have h2x : w6.heap[w.heap.size]? = some (.cells #[.bool true, .int .i64 (nm l 0 4 : Int), .int .i64 (nm l 4 4 : Int), .int .i64 (nm l 10 4 - 1), .int .i64 (nm l 18 4 - 1), .int .i64 (nm l 14 4 - 1), .int .i64 (nm l 22 4 - 1), .int .i64 (nm l 8 2 : Int), .int .i64 (nm l 26 4 - 1)] 25) := h2
    have HB6 := Lib.hid h2x
    clear h2x
    have k1 := h3.obj (HF5.out.obj O1.out (by simp)) (by simp; omega)
    have k2 := h3.obj (HF5.out.obj O2.out (by simp)) (by simp; omega)
    have hf6 : Fr [] w w6 := HF3.out.next ((HF5.out.mono (T := [q, p, w.heap.size]) (by simp)).trans h3) (by intro i hi; simp at hi; have := HS.out; omega)
    have HF6 := Lib.hid hf6
    obtain ⟨c0, c1, c2, c2f⟩ := cod_cells h1.cod
    have K1 := Lib.hid k1
    clear h1 h2 h3 hf6
    have z0 := cell_of_row w6 _ 0 _ _ _ k1
    have z1 := cell_of_row w6 _ 1 _ _ _ k1
    have z2 := cell_of_row w6 _ 2 _ _ _ k1
    have z3 := cell_of_row w6 _ 3 _ _ _ k1
    have z4 := cell_of_row w6 _ 4 _ _ _ k1
    have z5 := cell_of_row w6 _ 5 _ _ _ k1
    have z6 := cell_of_row w6 _ 6 _ _ _ k1
    have z7 := cell_of_row w6 _ 7 _ _ _ k1
    have z8 := cell_of_row w6 _ 8 _ _ _ k1
    have zf0 := frozen_of_row w6 _ 0 _ _ k1
    have zf1 := frozen_of_row w6 _ 1 _ _ k1
    have zf2 := frozen_of_row w6 _ 2 _ _ k1
    have zf3 := frozen_of_row w6 _ 3 _ _ k1
    have zf4 := frozen_of_row w6 _ 4 _ _ k1
    have zf5 := frozen_of_row w6 _ 5 _ _ k1
    have zf6 := frozen_of_row w6 _ 6 _ _ k1
    have zf7 := frozen_of_row w6 _ 7 _ _ k1
    have zf8 := frozen_of_row w6 _ 8 _ _ k1
    clear k1
    cases hbad : oBad (oDec l)
    · rw [hbad] at c2
      have HBAD := Lib.hid hbad
      clear hbad k2
      have x0 := cell_of_row w6 _ 0 _ _ _ HB6.out
      have x1 := cell_of_row w6 _ 1 _ _ _ HB6.out
      have x2 := cell_of_row w6 _ 2 _ _ _ HB6.out
      have x3 := cell_of_row w6 _ 3 _ _ _ HB6.out
      have x4 := cell_of_row w6 _ 4 _ _ _ HB6.out
      have x5 := cell_of_row w6 _ 5 _ _ _ HB6.out
      have x6 := cell_of_row w6 _ 6 _ _ _ HB6.out
      have x7 := cell_of_row w6 _ 7 _ _ _ HB6.out
      have x8 := cell_of_row w6 _ 8 _ _ _ HB6.out
      go_wp2
      refine bodyPost_ret (v := .tuple #[.agg #[.bool true, .int .i64 (nm l 0 4 : Int), .int .i64 (nm l 4 4 : Int), .int .i64 (nm l 10 4 - 1), .int .i64 (nm l 18 4 - 1), .int .i64 (nm l 14 4 - 1), .int .i64 (nm l 22 4 - 1), .int .i64 (nm l 8 2 : Int), .int .i64 (nm l 26 4 - 1)], .int .i64 0]) ?_ rfl ⟨_, rfl, _, by rw [errRo_ok HL.out HBAD.out], Fr.setCells (by simp) [.bool true, .int .i64 (nm l 0 4 : Int), .int .i64 (nm l 4 4 : Int), .int .i64 (nm l 10 4 - 1), .int .i64 (nm l 18 4 - 1), .int .i64 (nm l 14 4 - 1), .int .i64 (nm l 22 4 - 1), .int .i64 (nm l 8 2 : Int), .int .i64 (nm l 26 4 - 1)] 0 _ HF6.out, by rw [if_pos (errRo_ok HL.out HBAD.out)]; rfl⟩
      exact results_row Try.results33 _ _ (w.heap.size + 1) 25 _ _ _ rfl rfl (obj_setCells K1.out [.bool true, .int .i64 (nm l 0 4 : Int), .int .i64 (nm l 4 4 : Int), .int .i64 (nm l 10 4 - 1), .int .i64 (nm l 18 4 - 1), .int .i64 (nm l 14 4 - 1), .int .i64 (nm l 22 4 - 1), .int .i64 (nm l 8 2 : Int), .int .i64 (nm l 26 4 - 1)] rfl) Try.underlying25 rfl infoRo
    · rw [hbad] at c2
      have HBAD := Lib.hid hbad
      clear hbad
      have x0 := cell_of_row w6 _ 0 _ _ _ k2
      have x1 := cell_of_row w6 _ 1 _ _ _ k2
      have x2 := cell_of_row w6 _ 2 _ _ _ k2
      have x3 := cell_of_row w6 _ 3 _ _ _ k2
      have x4 := cell_of_row w6 _ 4 _ _ _ k2
      have x5 := cell_of_row w6 _ 5 _ _ _ k2
      have x6 := cell_of_row w6 _ 6 _ _ _ k2
      have x7 := cell_of_row w6 _ 7 _ _ _ k2
      have x8 := cell_of_row w6 _ 8 _ _ _ k2
      clear k2
      go_wp2
      refine bodyPost_ret (v := .tuple #[zRo, .int .i64 41]) ?_ rfl ⟨_, rfl, _, by rw [errRo_bad HL.out HBAD.out], Fr.setCells (by simp) [.bool false, .int .i64 0, .int .i64 0, .int .i64 0, .int .i64 0, .int .i64 0, .int .i64 0, .int .i64 0, .int .i64 0] 0 _ HF6.out, by rw [if_neg (by rw [errRo_bad HL.out HBAD.out]; decide)]⟩
      exact results_row Try.results33 _ _ (w.heap.size + 1) 25 _ _ _ rfl rfl (obj_setCells K1.out [.bool false, .int .i64 0, .int .i64 0, .int .i64 0, .int .i64 0, .int .i64 0, .int .i64 0, .int .i64 0, .int .i64 0] rfl) Try.underlying25 rfl infoRo
  · have hbb : ((l.length : Int) != 30) = true := by rw [bne_iff_ne]; omega
    have HL := Lib.hid hlen
    have x0 := cell_of_row w3 _ 0 _ _ _ o2
    have x1 := cell_of_row w3 _ 1 _ _ _ o2
    have x2 := cell_of_row w3 _ 2 _ _ _ o2
    have x3 := cell_of_row w3 _ 3 _ _ _ o2
    have x4 := cell_of_row w3 _ 4 _ _ _ o2
    have x5 := cell_of_row w3 _ 5 _ _ _ o2
    have x6 := cell_of_row w3 _ 6 _ _ _ o2
    have x7 := cell_of_row w3 _ 7 _ _ _ o2
    have x8 := cell_of_row w3 _ 8 _ _ _ o2
    have z0 := cell_of_row w3 _ 0 _ _ _ o1
    have z1 := cell_of_row w3 _ 1 _ _ _ o1
    have z2 := cell_of_row w3 _ 2 _ _ _ o1
    have z3 := cell_of_row w3 _ 3 _ _ _ o1
    have z4 := cell_of_row w3 _ 4 _ _ _ o1
    have z5 := cell_of_row w3 _ 5 _ _ _ o1
    have z6 := cell_of_row w3 _ 6 _ _ _ o1
    have z7 := cell_of_row w3 _ 7 _ _ _ o1
    have z8 := cell_of_row w3 _ 8 _ _ _ o1
    have zf0 := frozen_of_row w3 _ 0 _ _ o1
    have zf1 := frozen_of_row w3 _ 1 _ _ o1
    have zf2 := frozen_of_row w3 _ 2 _ _ o1
    have zf3 := frozen_of_row w3 _ 3 _ _ o1
    have zf4 := frozen_of_row w3 _ 4 _ _ o1
    have zf5 := frozen_of_row w3 _ 5 _ _ o1
    have zf6 := frozen_of_row w3 _ 6 _ _ o1
    have zf7 := frozen_of_row w3 _ 7 _ _ o1
    have zf8 := frozen_of_row w3 _ 8 _ _ o1
    have K1 := Lib.hid o1
    clear o0 o1 o2 hlen hs3
    go_wp2
    refine bodyPost_ret (v := .tuple #[zRo, .int .i64 4]) ?_ rfl ⟨_, rfl, _, by rw [errRo_size HL.out], Fr.setCells (by simp) [.bool false, .int .i64 0, .int .i64 0, .int .i64 0, .int .i64 0, .int .i64 0, .int .i64 0, .int .i64 0, .int .i64 0] 0 _ HF3.out, by rw [if_neg (by rw [errRo_size HL.out]; decide)]⟩
    exact results_row Try.results33 _ _ (w.heap.size + 1) 25 _ _ _ rfl rfl (obj_setCells K1.out [.bool false, .int .i64 0, .int .i64 0, .int .i64 0, .int .i64 0, .int .i64 0, .int .i64 0, .int .i64 0, .int .i64 0] rfl) Try.underlying25 rfl infoRo

theorem getRo_form {w w' : World} {l : List UInt8} {x : Value} (h : GetRo w l w' x) : ∃ b0 z1 z2 z3 z4 z5 z6 z7 z8, x = .tuple #[.agg #[.bool b0, .int .i64 z1, .int .i64 z2, .int .i64 z3, .int .i64 z4, .int .i64 z5, .int .i64 z6, .int .i64 z7, .int .i64 z8], .int .i64 (errRo l)] ∧ Fr [] w w' ∧ if errRo l = 0 then (.agg #[.bool b0, .int .i64 z1, .int .i64 z2, .int .i64 z3, .int .i64 z4, .int .i64 z5, .int .i64 z6, .int .i64 z7, .int .i64 z8] : Value) = .agg (oDec l).cells.toArray else (.agg #[.bool b0, .int .i64 z1, .int .i64 z2, .int .i64 z3, .int .i64 z4, .int .i64 z5, .int .i64 z6, .int .i64 z7, .int .i64 z8] : Value) = zRo := by
  obtain ⟨v, rfl, hf, hv⟩ := h
  by_cases he : errRo l = 0
  · rw [if_pos he] at hv
    subst hv
    exact ⟨_, _, _, _, _, _, _, _, _, rfl, hf, by rw [if_pos he]; rfl⟩
  · rw [if_neg he] at hv
    subst hv
    exact ⟨_, _, _, _, _, _, _, _, _, rfl, hf, by rw [if_neg he]; rfl⟩

set_option maxRecDepth 100000 in
set_option maxHeartbeats 1600000 in
/-- the exported call -/
theorem GetRo_any (w : World) (a : Option Addr) (c : Nat) (l : List UInt8) (hb : Bytes w a l) :
    Calls Try.prog 14 #[.slice a l.length c] w fun e w' => ∃ x, e = .returned x ∧ GetRo w l w' x := by
  have HB := Lib.hid hb
  clear hb
  go_enter Try.func14, Try.ntmps14
  go_wp2_with fail
  obtain ⟨w1, hw1⟩ : ∃ w1, w1 = w.alloc (.cells #[.bool false, .int .i64 0, .int .i64 0, .int .i64 0, .int .i64 0, .int .i64 0, .int .i64 0, .int .i64 0, .int .i64 0] 25) := ⟨_, rfl⟩
  rw [← hw1]
  have hf1 : Fr [] w w1 := by rw [hw1]; exact (Fr.refl _ _).alloc _
  have ho1 : w1.heap[w.heap.size]? = some (.cells #[.bool false, .int .i64 0, .int .i64 0, .int .i64 0, .int .i64 0, .int .i64 0, .int .i64 0, .int .i64 0, .int .i64 0] 25) := by rw [hw1]; exact heap_alloc_new w _
  have HF1 := Lib.hid hf1
  have HO1 := Lib.hid ho1
  clear hw1 hf1 ho1
  refine (getRo_any w1 a c l (HB.out.keep HF1.out)).mono ?_
  rintro e w2 ⟨x, rfl, hg⟩
  obtain ⟨b0, n1, n2, n3, n4, n5, n6, n7, n8, rfl, hf2, hP⟩ := getRo_form hg
  have HG := Lib.hid hP
  have hz2 := hf2.obj HO1.out (by simp)
  have z0 := cell_of_row w2 _ 0 _ _ _ hz2
  have z1 := cell_of_row w2 _ 1 _ _ _ hz2
  have z2 := cell_of_row w2 _ 2 _ _ _ hz2
  have z3 := cell_of_row w2 _ 3 _ _ _ hz2
  have z4 := cell_of_row w2 _ 4 _ _ _ hz2
  have z5 := cell_of_row w2 _ 5 _ _ _ hz2
  have z6 := cell_of_row w2 _ 6 _ _ _ hz2
  have z7 := cell_of_row w2 _ 7 _ _ _ hz2
  have z8 := cell_of_row w2 _ 8 _ _ _ hz2
  have zf0 := frozen_of_row w2 _ 0 _ _ hz2
  have zf1 := frozen_of_row w2 _ 1 _ _ hz2
  have zf2 := frozen_of_row w2 _ 2 _ _ hz2
  have zf3 := frozen_of_row w2 _ 3 _ _ hz2
  have zf4 := frozen_of_row w2 _ 4 _ _ hz2
  have zf5 := frozen_of_row w2 _ 5 _ _ hz2
  have zf6 := frozen_of_row w2 _ 6 _ _ hz2
  have zf7 := frozen_of_row w2 _ 7 _ _ hz2
  have zf8 := frozen_of_row w2 _ 8 _ _ hz2
  have K2 := Lib.hid hz2
  have HF2 := Lib.hid (HF1.out.trans hf2)
  have hlt := (Array.getElem?_eq_some_iff.1 HO1.out).1
  clear hg hf2 hz2 hP
  generalize hE : errRo l = E at HG ⊢
  have HE := Lib.hid hE
  clear hE
  go_wp2
  refine bodyPost_ret (v := .tuple #[.agg #[.bool b0, .int .i64 n1, .int .i64 n2, .int .i64 n3, .int .i64 n4, .int .i64 n5, .int .i64 n6, .int .i64 n7, .int .i64 n8], .int .i64 E]) ?_ rfl ⟨_, rfl, _, by rw [HE.out], Fr.setCells (by simp) [.bool b0, .int .i64 n1, .int .i64 n2, .int .i64 n3, .int .i64 n4, .int .i64 n5, .int .i64 n6, .int .i64 n7, .int .i64 n8] 0 _ HF2.out, by rw [HE.out]; exact HG.out⟩
  exact results_row Try.results14 _ _ w.heap.size 25 _ _ _ rfl rfl (obj_setCells K2.out [.bool b0, .int .i64 n1, .int .i64 n2, .int .i64 n3, .int .i64 n4, .int .i64 n5, .int .i64 n6, .int .i64 n7, .int .i64 n8] rfl) Try.underlying25 rfl infoRo
end Go.Proofs.Ytbhmfbhfofgfaaa
