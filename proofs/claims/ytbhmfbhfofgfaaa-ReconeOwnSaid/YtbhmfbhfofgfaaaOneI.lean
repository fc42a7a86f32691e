/- Version 1: put and get of a property. -/
import Derived.Test.YtbhmfbhfofgfaaaOneG
import Derived.Laws.ResultCell
import Derived.StillTailTactics
import Derived.Deep.CutRange
import Derived.Deep.DeepCutAuto
import Derived.Laws.IdiomCopy
namespace Go.Proofs.Ytbhmfbhfofgfaaa
open Go.RowKit

structure PropV where
  key : Int
  kind : Int
  num : Int
  blob : Int
  prev : Int
  next : Int
def uNum (z : Int) : Int := IntKind.u64.wrap z
theorem uNum_bd (z : Int) : 0 ≤ uNum z ∧ uNum z < 18446744073709551616 := by
  unfold uNum
  rw [wrap64u]
  omega
def pHead (r : PropV) : List UInt8 := by8 2 (numU r.key 0).toNat ++ by8 1 (numU r.kind 0).toNat
def pMid (r : PropV) : List UInt8 := if r.kind ≤ 3 then by8 8 (uNum r.num).toNat else by8 4 (numU r.num 0).toNat ++ by8 4 (numU r.blob 1).toNat
def pU (r : PropV) : List UInt8 := pHead r ++ pMid r ++ ptrU r.prev ++ ptrU r.next
def pMidBad (r : PropV) (b : Bool) : Bool := if r.kind ≤ 3 then b || decide (r.blob ≠ -1) else okN (okN b r.num 0 1 || decide (r.num ≠ 0)) r.blob 0 65536
def pBad (r : PropV) : Bool := okN (okN (pMidBad r (okN (okN false r.key 0 200) r.kind 1 9)) r.prev (-1) 65536) r.next (-1) 65536
theorem pMid_length (r : PropV) : (pMid r).length = 8 := by
  unfold pMid
  split
  · rw [by8_length]
  · rw [List.length_append, by8_length, by8_length]
theorem pU_length (r : PropV) : (pU r).length = 19 := by
  unfold pU pHead
  simp only [List.length_append, by8_length, pMid_length, ptrU_length]
set_option maxRecDepth 100000 in
set_option maxHeartbeats 3200000 in
theorem prop_W (w0 w : World) (q p b T : Nat) (ky kd nu bl pv nx : Int) (h : CW w0 w q p [] false) (hr : w0.heap[b]? = some (.cells #[.int .i64 ky, .int .i64 kd, .int .i64 nu, .int .i64 bl, .int .i64 pv, .int .i64 nx] T)) :
    Calls Try.prog 44 #[.pointer (some ⟨q, 0, none⟩), .pointer (some ⟨b, 0, none⟩)] w fun e w' => e = .returned (.tuple #[]) ∧ CW w0 w' q p (pU ⟨ky, kd, nu, bl, pv, nx⟩) (pBad ⟨ky, kd, nu, bl, pv, nx⟩) := by
  have H := Lib.hid h
  have hb : b < w0.heap.size := (Array.getElem?_eq_some_iff.1 hr).1
  have HR := Lib.hid hr
  have HN0 := Lib.hid (cell_of_row w0 b 0 _ _ _ hr)
  have HN1 := Lib.hid (cell_of_row w0 b 1 _ _ _ hr)
  have HN3 := Lib.hid (cell_of_row w0 b 3 _ _ _ hr)
  have HN4 := Lib.hid (cell_of_row w0 b 4 _ _ _ hr)
  have HN5 := Lib.hid (cell_of_row w0 b 5 _ _ _ hr)
  have hbq : b ≠ q := by have := h.lo; have := h.pq; omega
  have hbp : b ≠ p := by have := h.lo; omega
  clear h hr
  go_enter Try.func44, Try.ntmps44
  go_wp2_with fail
  refine (token_W w0 w q p [] false b 0 ky H.out HN0.out hb (by simp)).mono ?_
  rintro e w1 ⟨rfl, h1, _⟩
  have H1 := Lib.hid h1
  clear h1
  go_wp2_with fail
  refine (num_W0 w0 w1 q p _ _ 1 b 1 kd 1 9 0 H1.out (by unfold Wd; omega) HN1.out hb (by rw [List.length_append, by8_length, List.length_nil]; omega)).mono ?_
  rintro e w2 ⟨rfl, h1, _⟩
  have H2 := Lib.hid h1
  obtain ⟨l2, hl2⟩ : ∃ l2, l2 = [] ++ by8 2 (numU ky 0).toNat ++ by8 1 (numU kd 0).toNat := ⟨_, rfl⟩
  have HL2 := Lib.hid (show l2.length = 3 by rw [hl2]; simp only [List.length_append, by8_length, List.length_nil])
  have HP2 := Lib.hid (show pHead ⟨ky, kd, nu, bl, pv, nx⟩ = l2 by rw [hl2]; rfl)
  rw [← hl2] at H2
  clear hl2
  obtain ⟨c0, c1, c2, c2f⟩ := cod_cells h1.cod
  have row := h1.fr.obj HR.out (by simp)
  have x1 := cell_of_row w2 b 1 _ _ _ row
  have x2 := cell_of_row w2 b 2 _ _ _ row
  have x3 := cell_of_row w2 b 3 _ _ _ row
  have HB2 := Lib.hid (show ∀ c, c = okN (okN false ky 0 200) kd 1 9 → c = okN (okN false ky 0 200) kd 1 9 from fun _ h => h)
  clear h1 row
  generalize hb2 : okN (okN false ky 0 200) kd 1 9 = b2 at H2 c2 HB2
  have HBB := Lib.hid hb2
  clear hb2 HB2
  by_cases hk : kd ≤ 3
  · have hd : decide (kd ≤ 3) = true := decide_eq_true hk
    have HM := Lib.hid (show pMid ⟨ky, kd, nu, bl, pv, nx⟩ = by8 8 (uNum nu).toNat from if_pos hk)
    have HMB := Lib.hid (show pMidBad ⟨ky, kd, nu, bl, pv, nx⟩ b2 = (b2 || decide (bl ≠ -1)) from if_pos hk)
    go_upto_region 3 with fail
    go_cut [] (fun wx => CW w0 wx q p l2 (b2 || decide (bl ≠ -1)))
    case first =>
      cases b2
      · by_cases hz : bl = -1
        · have hz1 : (bl != -1) = false := by rw [bne_eq_false_iff_eq]; exact hz
          go_wp2_with fail
          go_meet
          exact (H2.out.set false).same rfl (by simp [hz])
        · have hz1 : (bl != -1) = true := by rw [bne_iff_ne]; exact hz
          go_wp2_with fail
          go_meet
          exact (H2.out.set true).same rfl (by simp [hz])
      · go_wp2_with fail
        go_meet
        exact (H2.out.set true).same rfl rfl
    case rest =>
      have HC := Lib.hid hcut
      obtain ⟨c0, c1, c2, c2f⟩ := cod_cells hcut.cod
      have x2 := hcut.fr.cell (cell_of_row w0 b 2 _ _ _ HR.out) (by simp)
      clear hcut x1 x3
      go_wp2_with fail
      go_still_tail 9, (by kernel_rfl)
      change wpList _ _ _ _ _ wc.drew
      have hC3 := HC.out.still ((Fr.refl [] wc).drew)
      generalize wc.drew = w3 at hC3
      have HC3 := Lib.hid hC3
      clear hC3
      go_wp2_with fail
      obtain ⟨v, a1, a2⟩ := HC3.out.ex
      have hbd := uNum_bd nu
      have hp := HC3.out.pq
      refine (Num_int (q + 1) p v l2 8 (uNum nu) w3 a1 a2 (by intro e; have := (own_lt a2 e).1; omega) HC3.out.lt (by unfold Wd; omega) hbd.1 hbd.2 (by have := HL2.out; omega)).mono ?_
      rintro e w4 ⟨rfl, v', hpu⟩
      have HC4 := Lib.hid (HC3.out.puts a1 a2 hpu)
      clear a1 a2 hpu
      go_wp2_with fail
      refine (pointer_W w0 w4 q p _ _ b 4 pv 65536 HC4.out HN4.out hb (by have := HL2.out; rw [List.length_append, by8_length]; omega)).mono ?_
      rintro e w5 ⟨rfl, h1, _⟩
      have H5 := Lib.hid h1
      clear h1
      go_wp2_with fail
      refine (pointer_W w0 w5 q p _ _ b 5 nx 65536 H5.out HN5.out hb (by have := HL2.out; rw [List.length_append, List.length_append, by8_length, ptrU_length]; omega)).mono ?_
      rintro e w6 ⟨rfl, h1, _⟩
      have H6 := Lib.hid h1
      clear h1
      go_wp2
      go_end0
      refine ⟨rfl, ?_⟩
      unfold pU pBad
      rw [HP2.out, HM.out, HBB.out, HMB.out]
      exact H6.out
  · have hd : decide (kd ≤ 3) = false := decide_eq_false hk
    have HM := Lib.hid (show pMid ⟨ky, kd, nu, bl, pv, nx⟩ = by8 4 (numU nu 0).toNat ++ by8 4 (numU bl 1).toNat from if_neg hk)
    have HMB := Lib.hid (show pMidBad ⟨ky, kd, nu, bl, pv, nx⟩ b2 = okN (okN b2 nu 0 1 || decide (nu ≠ 0)) bl 0 65536 from if_neg hk)
    go_upto_region 8 with fail
    obtain ⟨w3, hw3⟩ : ∃ w3, w3 = w2.alloc (.cells #[.int .i64 nu] 3) := ⟨_, rfl⟩
    rw [← hw3]
    have hf3 : Fr [] w2 w3 := by rw [hw3]; exact (Fr.refl _ _).alloc _
    have hno3 : w3.heap[w2.heap.size]? = some (.cells #[.int .i64 nu] 3) := by rw [hw3]; exact heap_alloc_new w2 _
    have HC3 := Lib.hid (H2.out.still hf3)
    have hnq := H2.out.lt
    have hnpq := H2.out.pq
    have hx3 := cell_of_row w3 _ 0 _ _ _ hno3
    clear hw3 hf3 hno3 c0 c1 c2 c2f x1 x2 x3
    generalize w2.heap.size = nb at hnq hx3 ⊢
    go_wp2_with fail
    refine (num_W w0 w3 q p _ _ 4 nb 0 nu 0 1 0 HC3.out (by unfold Wd; omega) hx3 (by omega) (by omega) (by have := HL2.out; omega)).mono ?_
    rintro e w4 ⟨rfl, h1, _⟩
    have H4 := Lib.hid h1
    obtain ⟨c0, c1, c2, c2f⟩ := cod_cells h1.cod
    have x2 := h1.fr.cell (cell_of_row w0 b 2 _ _ _ HR.out) (by simp)
    clear h1 hx3
    generalize okN b2 nu 0 1 = b4 at H4 c2 HMB
    go_upto_region 9 with fail
    go_cut [] (fun wx => CW w0 wx q p (l2 ++ by8 4 (numU nu 0).toNat) (b4 || decide (nu ≠ 0)))
    case first =>
      cases b4
      · by_cases hz : nu = 0
        · have hz1 : (nu != 0) = false := by rw [bne_eq_false_iff_eq]; exact hz
          go_wp2_with fail
          go_meet
          exact (H4.out.set false).same rfl (by simp [hz])
        · have hz1 : (nu != 0) = true := by rw [bne_iff_ne]; exact hz
          go_wp2_with fail
          go_meet
          exact (H4.out.set true).same rfl (by simp [hz])
      · go_wp2_with fail
        go_meet
        exact (H4.out.set true).same rfl rfl
    case rest =>
      have HC := Lib.hid hcut
      clear hcut
      go_wp2_with fail
      refine (num_W0 w0 wc q p _ _ 4 b 3 bl 0 65536 1 HC.out (by unfold Wd; omega) HN3.out hb (by have := HL2.out; rw [List.length_append, by8_length]; omega)).mono ?_
      rintro e w5 ⟨rfl, h1, _⟩
      have H5 := Lib.hid h1
      clear h1
      go_wp2_with fail
      refine (pointer_W w0 w5 q p _ _ b 4 pv 65536 H5.out HN4.out hb (by have := HL2.out; rw [List.length_append, List.length_append, by8_length, by8_length]; omega)).mono ?_
      rintro e w6 ⟨rfl, h1, _⟩
      have H6 := Lib.hid h1
      clear h1
      go_wp2_with fail
      refine (pointer_W w0 w6 q p _ _ b 5 nx 65536 H6.out HN5.out hb (by have := HL2.out; rw [List.length_append, List.length_append, List.length_append, by8_length, by8_length, ptrU_length]; omega)).mono ?_
      rintro e w7 ⟨rfl, h1, _⟩
      have H7 := Lib.hid h1
      clear h1
      go_wp2
      go_end0
      refine ⟨rfl, ?_⟩
      unfold pU pBad
      rw [HP2.out, HM.out, HBB.out, HMB.out, ← List.append_assoc]
      exact H7.out

theorem infoPo : (Try.prog.info? 53).map (·.size) = some 6 := by kernel_rfl
def zPo : Value := .agg #[.int .i64 0, .int .i64 0, .int .i64 0, .int .i64 0, .int .i64 0, .int .i64 0]
/-- what a writing gives -/
def PutPo (w w' : World) (e : Ending) (bad : Bool) (l : List UInt8) : Prop :=
  if bad then e = .returned (.tuple #[.slice none 0 0, .int .i64 41]) ∧ Fr [] w w' else ∃ v, e = .returned (.tuple #[v, .int .i64 0]) ∧ Fresh w.heap.size w w' v l
theorem PutPo.yes {w w' : World} {e : Ending} {bad : Bool} {l : List UInt8} {v : Value} (hb : bad = false) (he : e = .returned (.tuple #[v, .int .i64 0])) (h : Fresh w.heap.size w w' v l) : PutPo w w' e bad l := by
  unfold PutPo; rw [if_neg (by rw [hb]; simp)]; exact ⟨v, he, h⟩
theorem PutPo.no {w w' : World} {e : Ending} {bad : Bool} {l : List UInt8} (hb : bad = true) (he : e = .returned (.tuple #[.slice none 0 0, .int .i64 41])) (h : Fr [] w w') : PutPo w w' e bad l := by
  unfold PutPo; rw [if_pos hb]; exact ⟨he, h⟩
theorem PutPo.get {w w' : World} {e : Ending} {bad : Bool} {l : List UInt8} (h : PutPo w w' e bad l) : (bad = true ∧ e = .returned (.tuple #[.slice none 0 0, .int .i64 41]) ∧ Fr [] w w') ∨ (bad = false ∧ ∃ v, e = .returned (.tuple #[v, .int .i64 0]) ∧ Fresh w.heap.size w w' v l) := by
  unfold PutPo at h
  cases bad
  · exact .inr ⟨rfl, h⟩
  · exact .inl ⟨rfl, h⟩
set_option maxRecDepth 100000 in
set_option maxHeartbeats 1600000 in
theorem putPo_any (w : World) (b : Nat) (ky kd nu bl pv nx : Int) (hr : w.heap[b]? = some (.cells #[.int .i64 ky, .int .i64 kd, .int .i64 nu, .int .i64 bl, .int .i64 pv, .int .i64 nx] 53)) :
    Calls Try.prog 43 #[.pointer (some ⟨b, 0, none⟩), .func (.func 44) #[] #[]] w fun e w' => PutPo w w' e (pBad ⟨ky, kd, nu, bl, pv, nx⟩) (pU ⟨ky, kd, nu, bl, pv, nx⟩) := by
  have HR := Lib.hid hr

  clear hr
  go_enter Try.func43, Try.ntmps43
  go_wp2_with fail
  refine (NewWriter_any w).mono ?_
  rintro e w1 ⟨rfl, h1, h2, h3⟩
  obtain ⟨p, hp⟩ : ∃ p, p = w.heap.size := ⟨_, rfl⟩
  rw [← hp] at h1 ⊢
  obtain ⟨w2, hw2⟩ : ∃ w2, w2 = w1.alloc (.cells #[.pointer (some ⟨p, 0, none⟩), .pointer none, .bool false] 96) := ⟨_, rfl⟩
  have hC2 : CW w w2 w1.heap.size p [] false := by
    rw [hw2]
    exact ⟨heap_alloc_new w1 _, ⟨.slice none 0 0, ((Fr.refl [] w1).alloc _).obj h1 (by simp), World.ownsRow_nil _ _ _ _⟩, by omega, by omega, h2.alloc _⟩
  have HC2 := Lib.hid hC2
  have HW2 := Lib.hid hw2
  clear h1 h2 h3 hC2 hp hw2
  go_wp2_with fail
  rw [← HW2.out]
  clear HW2
  generalize w1.heap.size = q at HC2
  refine (prop_W w w2 q p b 53 ky kd nu bl pv nx HC2.out HR.out).mono ?_
  rintro e w3 ⟨rfl, h1⟩
  have HC3 := Lib.hid h1
  obtain ⟨c0, c1, c2, c2f⟩ := cod_cells h1.cod
  have hlt := h1.lt
  obtain ⟨l, hl⟩ : ∃ l, l = pU ⟨ky, kd, nu, bl, pv, nx⟩ := ⟨_, rfl⟩
  have hln : l.length = 19 := by rw [hl]; exact pU_length _
  have HLN := Lib.hid hln
  have HL := Lib.hid hl
  clear h1 hln
  rw [← hl] at HC3
  clear hl
  cases hbad : pBad ⟨ky, kd, nu, bl, pv, nx⟩
  · have HB := Lib.hid hbad
    rw [hbad] at c2 HC3
    clear hbad
    go_wp2_with fail
    have h1 := HC3.out
    obtain ⟨v, a1, a2⟩ := h1.ex
    have ht : Wtr w w3 p l := ⟨⟨v, a1, own_base a2 (by have := h1.lo; have := h1.pq; omega), fun e => by have := (own_lt a2 e).1; have := h1.pq; omega⟩, h1.lo, h1.fr⟩
    refine (BytesW w w3 p _ ht (by rw [HLN.out]; omega)).mono ?_
    rintro e w4 ⟨u, rfl, hg⟩
    have HF4 := Lib.hid (hg.fresh (by rw [HLN.out]; omega))
    have HW3 := Lib.hid ht.fr
    clear h1 a1 a2 ht hg
    go_wp2
    go_ret2
    exact PutPo.yes HB.out rfl (HL.out ▸ HF4.out.base HW3.out HW3.out.size)
  · have HB := Lib.hid hbad
    rw [hbad] at c2 HC3
    clear hbad
    go_wp2_with fail
    go_ret2
    exact PutPo.no HB.out rfl HC3.out.fr
/-- the exported call -/
theorem PutPo_any (w : World) (ky kd nu bl pv nx : Int) :
    Calls Try.prog 22 #[.agg #[.int .i64 ky, .int .i64 kd, .int .i64 nu, .int .i64 bl, .int .i64 pv, .int .i64 nx]] w fun e w' => PutPo w w' e (pBad ⟨ky, kd, nu, bl, pv, nx⟩) (pU ⟨ky, kd, nu, bl, pv, nx⟩) := by


  go_enter Try.func22, Try.ntmps22
  go_wp2_with fail
  obtain ⟨w1, hw1⟩ : ∃ w1, w1 = w.alloc (.cells #[.int .i64 ky, .int .i64 kd, .int .i64 nu, .int .i64 bl, .int .i64 pv, .int .i64 nx] 53) := ⟨_, rfl⟩
  rw [← hw1]
  have hf : Fr [] w w1 := by rw [hw1]; exact (Fr.refl _ _).alloc _
  have hb : w1.heap[w.heap.size]? = some (.cells #[.int .i64 ky, .int .i64 kd, .int .i64 nu, .int .i64 bl, .int .i64 pv, .int .i64 nx] 53) := by rw [hw1]; exact heap_alloc_new w _
  have HF := Lib.hid hf
  have HB := Lib.hid hb
  clear hw1 hf hb
  refine (putPo_any w1 w.heap.size ky kd nu bl pv nx HB.out).mono ?_
  intro e w2 hp
  rcases hp.get with ⟨hb, rfl, hfr⟩ | ⟨hb, v, rfl, hfr⟩
  · have HG := Lib.hid (HF.out.trans hfr)
    have HB2 := Lib.hid hb
    clear hfr hb hp
    go_wp2
    go_ret2
    exact PutPo.no HB2.out rfl HG.out
  · have HG := Lib.hid (hfr.base HF.out HF.out.size)
    have HB2 := Lib.hid hb
    obtain ⟨a, n, c, rfl⟩ : ∃ a n c, v = .slice a n c := by
      obtain ⟨g, c, rfl, _⟩ := hfr
      exact ⟨_, _, _, rfl⟩
    clear hfr hb hp
    go_wp2
    go_ret2
    exact PutPo.yes HB2.out rfl HG.out
end Go.Proofs.Ytbhmfbhfofgfaaa
