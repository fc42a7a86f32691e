/- Version 1's node: a codec that reads one, and get. -/
import Derived.Test.YtbhmfbhfofgfaaaOneT
import Derived.Laws.ResultCell
import Derived.Laws.IdiomCopy
namespace Go.Proofs.Ytbhmfbhfofgfaaa
open Go.RowKit

theorem posL_zero {cs : List UInt8} (h : cs.all (· == 0) = true) : posL cs = [] := by
  induction cs with
  | nil => rfl
  | cons c cs ih =>
    simp only [List.all_cons, Bool.and_eq_true, beq_iff_eq] at h
    obtain ⟨rfl, h2⟩ := h
    have e : posL (0 :: cs) = posL cs := by unfold posL; simp [labN]
    rw [e]
    exact ih (by simpa using h2)
theorem posL_labs {cs : List UInt8} (h : gapOk cs = true) : posL cs = labsOf cs := by
  induction cs with
  | nil => rfl
  | cons c cs ih =>
    cases hc : (c == 0)
    · have hb : (c != 0) = true := by unfold bne; rw [hc]; rfl
      have hn := labN_pos hb
      have e1 : gapOk (c :: cs) = gapOk cs := by unfold gapOk; rw [List.dropWhile_cons, hb]; rfl
      have e2 : labsOf (c :: cs) = labN c :: labsOf cs := by unfold labsOf; rw [List.takeWhile_cons, hb]; rfl
      have e3 : posL (c :: cs) = labN c :: posL cs := by unfold posL; simp [hn]
      rw [e2, e3, ih (by rw [← e1]; exact h)]
    · have e : c = 0 := by simpa using hc
      subst e
      have e1 : gapOk (0 :: cs) = cs.all (· == 0) := by simp [gapOk]
      have e2 : labsOf (0 :: cs) = [] := by simp [labsOf]
      rw [e1] at h
      rw [e2]
      exact posL_zero (by simp only [List.all_cons, h]; rfl)
set_option maxRecDepth 100000 in
set_option maxHeartbeats 1600000 in
theorem node_R (w : World) (q p g b : Nat) (l : List UInt8) (h : CR w q p g l 0 false) (hob : w.heap[b]? = some (.cells #[.int .i64 0, .int .i64 0, .slice none 0 0] 43)) (hqg : g < w.heap.size) (hbq : b ≠ q) (hbp : b ≠ p) (hbg : b ≠ g) (hl : l.length = 16) :
    Calls Try.prog 37 #[.pointer (some ⟨q, 0, none⟩), .pointer (some ⟨b, 0, none⟩)] w fun e w' => e = .returned (.tuple #[]) ∧ ∃ v, CR w' q p g l 16 (!noOk l) ∧ w'.heap[b]? = some (.cells #[.int .i64 (nm l 0 4 - 1), .int .i64 (nm l 4 4 - 1), v] 43) ∧ w'.ownsRow w.heap.size 3 1 v (posL (l.drop 8)).length ((posL (l.drop 8)).map (Value.int .i64)) ∧ Fr [q, p, b] w w' := by
  have H := Lib.hid h
  have HO := Lib.hid hob
  have HL := Lib.hid hl
  have hle : l.length ≤ 1000 := by omega
  clear h hob hl
  go_enter Try.func37, Try.ntmps37
  go_wp2_with fail
  refine (pointer_R w q p g l 0 false b 0 _ [.int .i64 0, .int .i64 0, .slice none 0 0] 2048 H.out HO.out (by decide) hbq hbp hbg hle (by have := HL.out; omega)).mono ?_
  rintro e w1 ⟨rfl, h1, h2, h3⟩
  have H1 := Lib.hid h1
  have H2 := Lib.hid h2
  have H3 := Lib.hid h3
  clear h1 h2 h3
  go_wp2_with fail
  refine (pointer_R w1 q p g l _ _ b 1 _ _ 65536 H1.out H2.out (by simp) hbq hbp hbg hle (by have := HL.out; omega)).mono ?_
  rintro e w2 ⟨rfl, h1, h2, h3⟩
  have hc2 : CR w2 q p g l 8 (okN (okN false (nm l 0 4 - 1) (-1) 2048) (nm l 4 4 - 1) (-1) 65536) := by simpa using h1
  have row2 : w2.heap[b]? = some (.cells #[.int .i64 (nm l 0 4 - 1), .int .i64 (nm l 4 4 - 1), .slice none 0 0] 43) := by simpa using h2
  have HC2 := Lib.hid hc2
  have HR2 := Lib.hid row2
  have HF2 := Lib.hid (H3.out.trans h3)
  have hg2 : g < w2.heap.size := Nat.lt_of_lt_of_le hqg (H3.out.trans h3).size
  clear h1 h2 h3 hc2 row2
  go_wp2_with fail
  refine (labels_R w2 q p g b 43 l 8 _ _ _ HC2.out HR2.out hg2 hbq hbp hbg hle (by have := HL.out; omega)).mono ?_
  rintro e w3 ⟨rfl, v, h1⟩
  have H4 := Lib.hid h1
  clear h1
  go_wp2
  go_end0
  have h5 := H4.out
  have e8 : (l.drop 8).take 8 = l.drop 8 := List.take_of_length_le (by rw [List.length_drop]; have := HL.out; omega)
  rw [e8, labRun_read _ _ (by rw [List.length_drop]; have := HL.out; omega)] at h5
  have eb : (okN (okN false (nm l 0 4 - 1 : Int) (-1) 2048) (nm l 4 4 - 1) (-1) 65536 || !(gapOk (l.drop 8) && labFine (labsOf (l.drop 8)))) = !noOk l := by
    unfold noOk noFine okN
    generalize inB (nm l 0 4 - 1 : Int) (-1) 2048 = A
    generalize inB (nm l 4 4 - 1 : Int) (-1) 65536 = B
    generalize gapOk (l.drop 8) = C
    generalize labFine (labsOf (l.drop 8)) = D
    cases A <;> cases B <;> cases C <;> cases D <;> rfl
  rw [eb] at h5
  exact ⟨rfl, v, h5.cr, h5.row, own_base h5.own HF2.out.size, HF2.out.trans h5.fr⟩
/-- the error's number -/
def errNo (l : List UInt8) : Int := if l.length = 16 then (if noOk l then 0 else 41) else 4
theorem errNo_size {l : List UInt8} (h : l.length ≠ 16) : errNo l = 4 := if_neg h
theorem errNo_bad {l : List UInt8} (h : l.length = 16) (hb : noOk l = false) : errNo l = 41 := by unfold errNo; rw [if_pos h, if_neg (by rw [hb]; simp)]
theorem errNo_ok {l : List UInt8} (h : l.length = 16) (hb : noOk l = true) : errNo l = 0 := by unfold errNo; rw [if_pos h, if_pos hb]
theorem errNo_0 {l : List UInt8} (h : errNo l = 0) : l.length = 16 ∧ noOk l = true := by
  unfold errNo at h
  by_cases h1 : l.length = 16
  · refine ⟨h1, ?_⟩
    cases hb : noOk l
    · rw [if_pos h1, if_neg (by rw [hb]; simp)] at h; cases h
    · rfl
  · rw [if_neg h1] at h; cases h
/-- the node that is read -/
def valNo (l : List UInt8) : Int × Int × List Int := if errNo l = 0 then ((nm l 0 4 : Int) - 1, (nm l 4 4 : Int) - 1, labsOf (l.drop 8)) else (0, 0, [])
theorem valNo_ok {l : List UInt8} (h : errNo l = 0) : valNo l = ((nm l 0 4 : Int) - 1, (nm l 4 4 : Int) - 1, labsOf (l.drop 8)) := if_pos h
theorem valNo_no {l : List UInt8} (h : errNo l ≠ 0) : valNo l = (0, 0, []) := if_neg h
/-- what a reading gives -/
def GetNo (w : World) (l : List UInt8) (w' : World) (x : Value) : Prop :=
  ∃ la lc, x = .tuple #[.agg #[.int .i64 (valNo l).1, .int .i64 (valNo l).2.1, .slice la (valNo l).2.2.length lc], .int .i64 (errNo l)] ∧ w'.ownsRow w.heap.size 3 1 (.slice la (valNo l).2.2.length lc) (valNo l).2.2.length ((valNo l).2.2.map (Value.int .i64)) ∧ Fr [] w w'
theorem GetNo.no {w w' : World} {l : List UInt8} {n : Int} (he : errNo l = n) (h0 : n ≠ 0) (hf : Fr [] w w') : GetNo w l w' (.tuple #[zNo, .int .i64 n]) := by
  subst he
  refine ⟨none, 0, ?_, ?_, hf⟩
  · rw [valNo_no h0]; rfl
  · rw [valNo_no h0]; exact World.ownsRow_nil _ _ _ _
theorem GetNo.yes {w w' : World} {l : List UInt8} {la : Option Addr} {lc n : Nat} {L : List Int} (he : errNo l = 0) (hL : L = labsOf (l.drop 8)) (hn : n = L.length) (ho : w'.ownsRow w.heap.size 3 1 (.slice la n lc) L.length (L.map (Value.int .i64))) (hf : Fr [] w w') : GetNo w l w' (.tuple #[.agg #[.int .i64 (nm l 0 4 - 1), .int .i64 (nm l 4 4 - 1), .slice la n lc], .int .i64 0]) := by
  subst hn
  subst hL
  refine ⟨la, lc, ?_, ?_, hf⟩
  · rw [valNo_ok he, he]
  · rw [valNo_ok he]; exact ho
theorem own_len {w : World} {B e n m c : Nat} {a : Option Addr} {xs : List Value} (h : w.ownsRow B e 1 (.slice a m c) n xs) : m = n := by
  rcases h.2 with ⟨e1, e2⟩ | ⟨g, cap, cur, e1, _⟩
  · simp only [Value.slice.injEq] at e1; omega
  · simp only [Value.slice.injEq] at e1; omega
theorem three {w : World} {b T : Nat} {c0 c1 c2 : Value} (h : w.heap[b]? = some (.cells #[c0, c1, c2] T)) :
    w.cell? ⟨b, 0, none⟩ = some c0 ∧ w.cell? ⟨b, 1, none⟩ = some c1 ∧ w.cell? ⟨b, 2, none⟩ = some c2 :=
  ⟨cell_of_row _ _ 0 _ _ _ h, cell_of_row _ _ 1 _ _ _ h, cell_of_row _ _ 2 _ _ _ h⟩
theorem three_fz {w : World} {b T : Nat} {c0 c1 c2 : Value} (h : w.heap[b]? = some (.cells #[c0, c1, c2] T)) :
    w.frozen? ⟨b, 0, none⟩ = false ∧ w.frozen? ⟨b, 1, none⟩ = false ∧ w.frozen? ⟨b, 2, none⟩ = false :=
  ⟨frozen_of_row w b 0 _ _ h, frozen_of_row w b 1 _ _ h, frozen_of_row w b 2 _ _ h⟩
theorem own_ints_set {w : World} {B b : Nat} {v : Value} {L : List Int} (h : w.ownsRow B 3 1 v L.length (L.map (Value.int .i64))) (hb : ∀ i, v.ownBlock = some i → i ≠ b) (vs : List Value) : (w.setCells b 0 vs).ownsRow B 3 1 v L.length (L.map (Value.int .i64)) :=
  own_fr h (Fr.setCells (S := [b]) (by simp) vs 0 w (Fr.refl _ _)) (by intro i hi; simp; exact hb i hi)
set_option maxRecDepth 100000 in
set_option maxHeartbeats 1600000 in
theorem getNo_any (w : World) (a : Option Addr) (c : Nat) (l : List UInt8) (hb : Bytes w a l) :
    Calls Try.prog 41 #[.slice a l.length c, .int .i64 16, .agg #[.int .i64 0, .int .i64 0, .slice none 0 0], .func (.func 37) #[] #[]] w fun e w' => ∃ x, e = .returned x ∧ GetNo w l w' x := by
  have HB := Lib.hid hb
  clear hb
  go_enter Try.func41, Try.ntmps41
  go_upto_region 2 with fail
  obtain ⟨w3, hw3⟩ : ∃ w3, w3 = ((w.alloc (.cells #[.int .i64 0, .int .i64 0, .slice none 0 0] 43)).alloc (.cells #[.int .i64 0, .int .i64 0, .slice none 0 0] 43)).alloc (.cells #[.int .i64 0, .int .i64 0, .slice none 0 0] 43) := ⟨_, rfl⟩
  rw [← hw3]
  have hf3 : Fr [] w w3 := by rw [hw3]; exact (((Fr.refl _ _).alloc _).alloc _).alloc _
  have o0 : w3.heap[w.heap.size]? = some (.cells #[.int .i64 0, .int .i64 0, .slice none 0 0] 43) := by
    rw [hw3]; exact (((Fr.refl [] _).alloc _).alloc _).obj (heap_alloc_new w _) (by simp)
  have o1 : w3.heap[w.heap.size + 1]? = some (.cells #[.int .i64 0, .int .i64 0, .slice none 0 0] 43) := by
    rw [hw3]
    have h := ((Fr.refl [] _).alloc (.cells #[.int .i64 0, .int .i64 0, .slice none 0 0] 43)).obj (heap_alloc_new (w.alloc (.cells #[.int .i64 0, .int .i64 0, .slice none 0 0] 43)) (.cells #[.int .i64 0, .int .i64 0, .slice none 0 0] 43)) (by simp)
    simpa using h
  have o2 : w3.heap[w.heap.size + 1 + 1]? = some (.cells #[.int .i64 0, .int .i64 0, .slice none 0 0] 43) := by
    rw [hw3]
    have h := heap_alloc_new ((w.alloc (.cells #[.int .i64 0, .int .i64 0, .slice none 0 0] 43)).alloc (.cells #[.int .i64 0, .int .i64 0, .slice none 0 0] 43)) (.cells #[.int .i64 0, .int .i64 0, .slice none 0 0] 43)
    simpa using h
  have hs3 : w3.heap.size = w.heap.size + 3 := by rw [hw3]; simp
  have HF3 := Lib.hid hf3
  clear hf3 hw3
  by_cases hlen : l.length = 16
  · have hbb : ((l.length : Int) != 16) = false := by rw [bne_eq_false_iff_eq]; omega
    have HL := Lib.hid hlen
    have O0 := Lib.hid o0
    have O1 := Lib.hid o1
    have O2 := Lib.hid o2
    have HS := Lib.hid hs3
    clear o0 o1 o2 hlen hs3
    go_wp2_with fail
    refine (NewR a c l _ (by rw [HL.out]; omega) (by rw [HL.out]; omega) (HB.out.keep HF3.out)).mono ?_
    rintro e w4 ⟨p, g, rfl, hr, hg, hgp, hf⟩
    have hs3 := HS.out
    have hbg : w.heap.size + 2 < g := by omega
    clear hs3 hg
    have HR4 := Lib.hid hr
    have HF4 := Lib.hid hf
    have HP4 := Lib.hid hr.lt
    clear hr hf
    go_wp2_with fail
    obtain ⟨w5, hw5⟩ : ∃ w5, w5 = w4.alloc (.cells #[.pointer none, .pointer (some ⟨p, 0, none⟩), .bool false] 96) := ⟨_, rfl⟩
    rw [← hw5]
    have hf5 : Fr [] w4 w5 := by rw [hw5]; exact (Fr.refl _ _).alloc _
    have hc5 : CR w5 w4.heap.size p g l 0 false := by
      have := HP4.out
      refine ⟨by rw [hw5]; exact heap_alloc_new w4 _, HR4.out.fr hf5 (by simp) (by simp), by omega, by omega⟩
    have HC5 := Lib.hid hc5
    have hq : p < w4.heap.size := HP4.out
    have HF5 := Lib.hid (HF4.out.trans hf5)
    have hs5 : w4.heap.size < w5.heap.size := by rw [hw5]; simp
    clear hw5 hc5 hf5 HR4
    generalize w4.heap.size = q at HC5 hq hs5 ⊢
    refine (node_R w5 q p g w.heap.size l HC5.out (HF5.out.obj O0.out (by simp)) (by omega) (by omega) (by omega) (by omega) HL.out).mono ?_
    rintro e w6 ⟨rfl, v, h1, h2, ho, h3⟩
    obtain ⟨la, lc, rfl⟩ : ∃ la lc, v = .slice la (posL (l.drop 8)).length lc := by
      obtain ⟨a, c, e⟩ := own_slice ho
      subst e
      exact ⟨a, c, by rw [own_len ho]⟩
    have HC6 := Lib.hid h1
    have HB6 := Lib.hid h2
    have k1 := h3.obj (HF5.out.obj O1.out (by simp)) (by simp; omega)
    have k2 := h3.obj (HF5.out.obj O2.out (by simp)) (by simp; omega)
    have hf6 : Fr [] w w6 := HF3.out.next ((HF5.out.mono (T := [q, p, w.heap.size]) (by simp)).trans h3) (by intro i hi; simp at hi; have := HS.out; omega)
    have HF6 := Lib.hid hf6
    have HOW := Lib.hid (own_base ho (show w.heap.size ≤ w5.heap.size by have := HF3.out.size; have := HF5.out.size; omega))
    have HOB := Lib.hid (show ∀ i, (Value.slice la (posL (l.drop 8)).length lc).ownBlock = some i → i ≠ w.heap.size + 1 from fun i hi => by have h5 := (own_lt ho hi).1; omega)
    obtain ⟨c0, c1, c2, c2f⟩ := cod_cells h1.cod
    have K1 := Lib.hid k1
    clear h1 h2 h3 hf6 ho
    obtain ⟨z0, z1, z2⟩ := three k1
    obtain ⟨zf0, zf1, zf2⟩ := three_fz k1
    clear k1
    obtain ⟨PL, hPL⟩ : ∃ PL, PL = posL (l.drop 8) := ⟨_, rfl⟩
    rw [← hPL] at HB6 HOW HOB
    have HPL := Lib.hid hPL
    clear hPL
    cases hbad : noOk l
    · rw [hbad] at c2
      have HBAD := Lib.hid hbad
      clear hbad
      obtain ⟨x0, x1, x2⟩ := three k2
      clear k2
      go_wp2
      refine bodyPost_ret (v := .tuple #[zNo, .int .i64 41]) ?_ rfl ⟨_, rfl, GetNo.no (errNo_bad HL.out HBAD.out) (by decide) (Fr.setCells (by simp) [.int .i64 0, .int .i64 0, .slice none 0 0] 0 _ HF6.out)⟩
      exact results_row Try.results41 _ _ (w.heap.size + 1) 43 _ _ _ rfl rfl (obj_setCells K1.out [.int .i64 0, .int .i64 0, .slice none 0 0] rfl) Try.underlying43 rfl infoNo
    · rw [hbad] at c2
      have HBAD := Lib.hid hbad
      have HGAP := Lib.hid (show PL = labsOf (l.drop 8) by rw [HPL.out]; unfold noOk at hbad; rw [Bool.and_eq_true] at hbad; exact posL_labs hbad.1)
      clear hbad k2
      obtain ⟨x0, x1, x2⟩ := three HB6.out
      go_wp2
      refine bodyPost_ret (v := .tuple #[.agg #[.int .i64 (nm l 0 4 - 1), .int .i64 (nm l 4 4 - 1), .slice la PL.length lc], .int .i64 0]) ?_ rfl ⟨_, rfl, GetNo.yes (errNo_ok HL.out HBAD.out) HGAP.out rfl (own_ints_set (b := w.heap.size + 1) HOW.out HOB.out [.int .i64 (nm l 0 4 - 1), .int .i64 (nm l 4 4 - 1), .slice la PL.length lc]) (Fr.setCells (by simp) [.int .i64 (nm l 0 4 - 1), .int .i64 (nm l 4 4 - 1), .slice la PL.length lc] 0 _ HF6.out)⟩
      exact results_row Try.results41 _ _ (w.heap.size + 1) 43 _ _ _ rfl rfl (obj_setCells K1.out [.int .i64 (nm l 0 4 - 1), .int .i64 (nm l 4 4 - 1), .slice la PL.length lc] rfl) Try.underlying43 rfl infoNo
  · have hbb : ((l.length : Int) != 16) = true := by rw [bne_iff_ne]; omega
    have HL := Lib.hid hlen
    obtain ⟨x0, x1, x2⟩ := three o2
    obtain ⟨z0, z1, z2⟩ := three o1
    obtain ⟨zf0, zf1, zf2⟩ := three_fz o1
    have K1 := Lib.hid o1
    clear o0 o1 o2 hlen hs3
    go_wp2
    refine bodyPost_ret (v := .tuple #[zNo, .int .i64 4]) ?_ rfl ⟨_, rfl, GetNo.no (errNo_size HL.out) (by decide) (Fr.setCells (by simp) [.int .i64 0, .int .i64 0, .slice none 0 0] 0 _ HF3.out)⟩
    exact results_row Try.results41 _ _ (w.heap.size + 1) 43 _ _ _ rfl rfl (obj_setCells K1.out [.int .i64 0, .int .i64 0, .slice none 0 0] rfl) Try.underlying43 rfl infoNo
set_option maxRecDepth 100000 in
set_option maxHeartbeats 1600000 in
/-- the exported call -/
theorem GetNo_any (w : World) (a : Option Addr) (c : Nat) (l : List UInt8) (hb : Bytes w a l) :
    Calls Try.prog 20 #[.slice a l.length c] w fun e w' => ∃ x, e = .returned x ∧ GetNo w l w' x := by
  have HB := Lib.hid hb
  clear hb
  go_enter Try.func20, Try.ntmps20
  go_wp2_with fail
  obtain ⟨w1, hw1⟩ : ∃ w1, w1 = w.alloc (.cells #[.int .i64 0, .int .i64 0, .slice none 0 0] 43) := ⟨_, rfl⟩
  rw [← hw1]
  have hf1 : Fr [] w w1 := by rw [hw1]; exact (Fr.refl _ _).alloc _
  have ho1 : w1.heap[w.heap.size]? = some (.cells #[.int .i64 0, .int .i64 0, .slice none 0 0] 43) := by rw [hw1]; exact heap_alloc_new w _
  have HF1 := Lib.hid hf1
  have HO1 := Lib.hid ho1
  clear hw1 hf1 ho1
  refine (getNo_any w1 a c l (HB.out.keep HF1.out)).mono ?_
  rintro e w2 ⟨x, rfl, la, lc, rfl, ho, hf2⟩
  have HOB := Lib.hid (show ∀ i, (Value.slice la (valNo l).2.2.length lc).ownBlock = some i → i ≠ w.heap.size from fun i hi => by have h5 := (own_lt ho hi).1; have h6 := (Array.getElem?_eq_some_iff.1 HO1.out).1; omega)
  have HOW := Lib.hid (own_base ho HF1.out.size)
  have hz2 := hf2.obj HO1.out (by simp)
  obtain ⟨z0, z1, z2⟩ := three hz2
  obtain ⟨zf0, zf1, zf2⟩ := three_fz hz2
  have K2 := Lib.hid hz2
  have HF2 := Lib.hid (HF1.out.trans hf2)
  have hlt := (Array.getElem?_eq_some_iff.1 HO1.out).1
  clear hf2 hz2 ho
  obtain ⟨V, hV⟩ : ∃ V, V = valNo l := ⟨_, rfl⟩
  obtain ⟨E, hE⟩ : ∃ E, E = errNo l := ⟨_, rfl⟩
  rw [← hV] at HOB HOW ⊢
  rw [← hE]
  have HV := Lib.hid hV
  have HE := Lib.hid hE
  clear hV hE
  obtain ⟨y1, y2, L⟩ := V
  simp only at HOB HOW ⊢
  go_wp2
  refine bodyPost_ret (v := .tuple #[.agg #[.int .i64 y1, .int .i64 y2, .slice la L.length lc], .int .i64 E]) ?_ rfl ⟨_, rfl, la, lc, by rw [← HV.out, ← HE.out], by rw [← HV.out]; exact own_ints_set (b := w.heap.size) HOW.out HOB.out [.int .i64 y1, .int .i64 y2, .slice la L.length lc], Fr.setCells (by simp) [.int .i64 y1, .int .i64 y2, .slice la L.length lc] 0 _ HF2.out⟩
  exact results_row Try.results20 _ _ w.heap.size 43 _ _ _ rfl rfl (obj_setCells K2.out [.int .i64 y1, .int .i64 y2, .slice la L.length lc] rfl) Try.underlying43 rfl infoNo
end Go.Proofs.Ytbhmfbhfofgfaaa
