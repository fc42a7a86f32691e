/- Version 1: put and get of a node. -/
import Derived.Test.YtbhmfbhfofgfaaaOneG
import Derived.Laws.ResultCell
import Derived.Laws.IdiomCopy
namespace Go.Proofs.Ytbhmfbhfofgfaaa
open Go.RowKit

theorem node_W (w0 w : World) (q p b T : Nat) (rl pp : Int) (a : Option Addr) (c : Nat) (L : List Int) (h : CW w0 w q p [] false) (hr : w0.heap[b]? = some (.cells #[.int .i64 rl, .int .i64 pp, .slice a L.length c] T)) (hI : Ints w0 a L) (hL : L.length ≤ 140737488351300) :
    Calls Try.prog 37 #[.pointer (some ⟨q, 0, none⟩), .pointer (some ⟨b, 0, none⟩)] w fun e w' => e = .returned (.tuple #[]) ∧ CW w0 w' q p (ptrU rl ++ ptrU pp ++ labU L 8) (okN (okN false rl (-1) 2048) pp (-1) 65536 || !labFine L) := by
  have H := Lib.hid h
  have hb : b < w0.heap.size := (Array.getElem?_eq_some_iff.1 hr).1
  have HN0 := Lib.hid (cell_of_row w0 b 0 _ _ _ hr)
  have HN1 := Lib.hid (cell_of_row w0 b 1 _ _ _ hr)
  have HN2 := Lib.hid (cell_of_row w0 b 2 _ _ _ hr)
  have HI := Lib.hid hI
  clear h hr hI
  go_enter Try.func37, Try.ntmps37
  go_wp2_with fail
  refine (pointer_W w0 w q p [] false b 0 rl 2048 H.out HN0.out hb (by simp)).mono ?_
  rintro e w1 ⟨rfl, h1, _⟩
  have H1 := Lib.hid h1
  clear h1
  go_wp2_with fail
  refine (pointer_W w0 w1 q p _ _ b 1 pp 65536 H1.out HN1.out hb (by rw [List.length_append, ptrU_length, List.length_nil]; omega)).mono ?_
  rintro e w2 ⟨rfl, h1, _⟩
  have H2 := Lib.hid h1
  clear h1
  go_wp2_with fail
  refine (labels_W w0 w2 q p _ _ b c a L H2.out HN2.out hb HI.out hL (by simp only [List.length_append, ptrU_length, List.length_nil]; omega)).mono ?_
  rintro e w3 ⟨rfl, h1⟩
  have H3 := Lib.hid h1
  clear h1
  go_wp2
  go_end0
  exact ⟨rfl, by have := H3.out; rw [labWs_8] at this; simpa using this⟩
/-- the eight bytes of right labels -/
theorem labU_to (L : List Int) (h : ∀ x ∈ L, 0 ≤ x ∧ x < 200) (k : Nat) : labU L k = labTo L k := by
  induction k with
  | zero => simp [labU, labTo]
  | succ k ih =>
    by_cases hk : k < L.length
    · have hm : L.getD k 0 = L[k] := by simp [List.getD, hk]
      have hx := h _ (List.getElem_mem hk)
      rw [labU, ih, labTo_in L k hk, show labAt L k = L.getD k 0 from if_pos hk, hm, numU_in (by omega) (by omega)]
      rfl
    · rw [labU, ih, labTo_out L k (by omega), show labAt L k = -1 from if_neg hk]
      rfl
theorem labU_B {L : List Int} (h : labFine L = true) : labU L 8 = labB L := by
  obtain ⟨h1, h2⟩ := labFine_bd h
  rw [labU_to L h1, labTo_8 L h2]

theorem infoNo : (Try.prog.info? 43).map (·.size) = some 3 := by kernel_rfl
def zNo : Value := .agg #[.int .i64 0, .int .i64 0, .slice none 0 0]
/-- what a writing gives -/
def PutNo (w w' : World) (e : Ending) (bad : Bool) (l : List UInt8) : Prop :=
  if bad then e = .returned (.tuple #[.slice none 0 0, .int .i64 41]) ∧ Fr [] w w' else ∃ v, e = .returned (.tuple #[v, .int .i64 0]) ∧ Fresh w.heap.size w w' v l
theorem PutNo.yes {w w' : World} {e : Ending} {bad : Bool} {l : List UInt8} {v : Value} (hb : bad = false) (he : e = .returned (.tuple #[v, .int .i64 0])) (h : Fresh w.heap.size w w' v l) : PutNo w w' e bad l := by
  unfold PutNo; rw [if_neg (by rw [hb]; simp)]; exact ⟨v, he, h⟩
theorem PutNo.no {w w' : World} {e : Ending} {bad : Bool} {l : List UInt8} (hb : bad = true) (he : e = .returned (.tuple #[.slice none 0 0, .int .i64 41])) (h : Fr [] w w') : PutNo w w' e bad l := by
  unfold PutNo; rw [if_pos hb]; exact ⟨he, h⟩
theorem PutNo.get {w w' : World} {e : Ending} {bad : Bool} {l : List UInt8} (h : PutNo w w' e bad l) : (bad = true ∧ e = .returned (.tuple #[.slice none 0 0, .int .i64 41]) ∧ Fr [] w w') ∨ (bad = false ∧ ∃ v, e = .returned (.tuple #[v, .int .i64 0]) ∧ Fresh w.heap.size w w' v l) := by
  unfold PutNo at h
  cases bad
  · exact .inr ⟨rfl, h⟩
  · exact .inl ⟨rfl, h⟩
set_option maxRecDepth 100000 in
set_option maxHeartbeats 1600000 in
theorem putNo_any (w : World) (b : Nat) (rl pp : Int) (a : Option Addr) (c : Nat) (L : List Int) (hI : Ints w a L) (hL : L.length ≤ 140737488351300) (hr : w.heap[b]? = some (.cells #[.int .i64 rl, .int .i64 pp, .slice a L.length c] 43)) :
    Calls Try.prog 36 #[.pointer (some ⟨b, 0, none⟩), .func (.func 37) #[] #[]] w fun e w' => PutNo w w' e (okN (okN false rl (-1) 2048) pp (-1) 65536 || !labFine L) (ptrU rl ++ ptrU pp ++ labU L 8) := by
  have HR := Lib.hid hr
  have HI := Lib.hid hI
  clear hr hI
  go_enter Try.func36, Try.ntmps36
  go_wp2_with fail
  refine (NewWriter_any w).mono ?_
  rintro e w1 ⟨rfl, h1, h2, h3⟩
  obtain ⟨p, hp⟩ : ∃ p, p = w.heap.size := ⟨_, rfl⟩
  rw [← hp] at h1 ⊢
  obtain ⟨w2, hw2⟩ : ∃ w2, w2 = w1.alloc (.cells #[.pointer (some ⟨p, 0, none⟩), .pointer none, .bool false] 96) := ⟨_, rfl⟩
  have hC2 : CW w w2 w1.heap.size p [] false := by
    rw [hw2]
    exact ⟨heap_alloc_new w1 _, ⟨.slice none 0 0, ((Fr.refl [] w1).alloc _).obj h1 (by simp), World.ownsRow_nil _ _ _ _⟩, by omega, by omega, h2.alloc _⟩
  have HC2 := Lib.hid hC2
  have HW2 := Lib.hid hw2
  clear h1 h2 h3 hC2 hp hw2
  go_wp2_with fail
  rw [← HW2.out]
  clear HW2
  generalize w1.heap.size = q at HC2
  refine (node_W w w2 q p b 43 rl pp a c L HC2.out HR.out HI.out hL).mono ?_
  rintro e w3 ⟨rfl, h1⟩
  have HC3 := Lib.hid h1
  obtain ⟨c0, c1, c2, c2f⟩ := cod_cells h1.cod
  have hlt := h1.lt
  obtain ⟨l, hl⟩ : ∃ l, l = ptrU rl ++ ptrU pp ++ labU L 8 := ⟨_, rfl⟩
  have hln : l.length = 16 := by rw [hl]; simp only [List.length_append, ptrU_length, labU_length]
  have HLN := Lib.hid hln
  have HL := Lib.hid hl
  clear h1 hln
  rw [← hl] at HC3
  clear hl
  cases hbad : okN (okN false rl (-1) 2048) pp (-1) 65536 || !labFine L
  · have HB := Lib.hid hbad
    rw [hbad] at c2 HC3
    clear hbad
    go_wp2_with fail
    have h1 := HC3.out
    obtain ⟨v, a1, a2⟩ := h1.ex
    have ht : Wtr w w3 p l := ⟨⟨v, a1, own_base a2 (by have := h1.lo; have := h1.pq; omega), fun e => by have := (own_lt a2 e).1; have := h1.pq; omega⟩, h1.lo, h1.fr⟩
    refine (BytesW w w3 p _ ht (by rw [HLN.out]; omega)).mono ?_
    rintro e w4 ⟨u, rfl, hg⟩
    have HF4 := Lib.hid (hg.fresh (by rw [HLN.out]; omega))
    have HW3 := Lib.hid ht.fr
    clear h1 a1 a2 ht hg
    go_wp2
    go_ret2
    exact PutNo.yes HB.out rfl (HL.out ▸ HF4.out.base HW3.out HW3.out.size)
  · have HB := Lib.hid hbad
    rw [hbad] at c2 HC3
    clear hbad
    go_wp2_with fail
    go_ret2
    exact PutNo.no HB.out rfl HC3.out.fr
/-- the exported call -/
theorem PutNo_any (w : World) (rl pp : Int) (a : Option Addr) (c : Nat) (L : List Int) (hI : Ints w a L) (hL : L.length ≤ 140737488351300) :
    Calls Try.prog 17 #[.agg #[.int .i64 rl, .int .i64 pp, .slice a L.length c]] w fun e w' => PutNo w w' e (okN (okN false rl (-1) 2048) pp (-1) 65536 || !labFine L) (ptrU rl ++ ptrU pp ++ labU L 8) := by
  have HI := Lib.hid hI
  clear hI
  go_enter Try.func17, Try.ntmps17
  go_wp2_with fail
  obtain ⟨w1, hw1⟩ : ∃ w1, w1 = w.alloc (.cells #[.int .i64 rl, .int .i64 pp, .slice a L.length c] 43) := ⟨_, rfl⟩
  rw [← hw1]
  have hf : Fr [] w w1 := by rw [hw1]; exact (Fr.refl _ _).alloc _
  have hb : w1.heap[w.heap.size]? = some (.cells #[.int .i64 rl, .int .i64 pp, .slice a L.length c] 43) := by rw [hw1]; exact heap_alloc_new w _
  have HF := Lib.hid hf
  have HB := Lib.hid hb
  clear hw1 hf hb
  refine (putNo_any w1 w.heap.size rl pp a c L (HI.out.keep HF.out) hL HB.out).mono ?_
  intro e w2 hp
  rcases hp.get with ⟨hb, rfl, hfr⟩ | ⟨hb, v, rfl, hfr⟩
  · have HG := Lib.hid (HF.out.trans hfr)
    have HB2 := Lib.hid hb
    clear hfr hb hp
    go_wp2
    go_ret2
    exact PutNo.no HB2.out rfl HG.out
  · have HG := Lib.hid (hfr.base HF.out HF.out.size)
    have HB2 := Lib.hid hb
    obtain ⟨a, n, c, rfl⟩ : ∃ a n c, v = .slice a n c := by
      obtain ⟨g, c, rfl, _⟩ := hfr
      exact ⟨_, _, _, rfl⟩
    clear hfr hb hp
    go_wp2
    go_ret2
    exact PutNo.yes HB2.out rfl HG.out
end Go.Proofs.Ytbhmfbhfofgfaaa
