/- The codec of version 1's records: one number is written, one number is read. -/
import Derived.Test.YtbhmfbhfofgfaaaOneP
import Derived.StillTailTactics
import Derived.Deep.CutRange
namespace Go.Proofs.Ytbhmfbhfofgfaaa
open Go.RowKit
attribute [local go_sem ↓] Go.wp_at_zero Go.wp_at_succ
/-- a codec that writes: its Writer holds these bytes -/
structure CW (w0 w : World) (q p : Nat) (l : List UInt8) (bad : Bool) : Prop where
  cod : w.heap[q]? = some (.cells #[.pointer (some ⟨p, 0, none⟩), .pointer none, .bool bad] 96)
  ex : ∃ v, w.heap[p]? = some (.cells #[v] 111) ∧ w.ownsRow (q + 1) 5 1 v l.length (l.map B8)
  lo : w0.heap.size ≤ p
  pq : p < q
  fr : Fr [] w0 w
theorem CW.lt {w0 w : World} {q p : Nat} {l : List UInt8} {bad : Bool} (h : CW w0 w q p l bad) : q < w.heap.size := (Array.getElem?_eq_some_iff.1 h.cod).1
theorem CW.still {w0 w w' : World} {q p : Nat} {l : List UInt8} {bad : Bool} (h : CW w0 w q p l bad) (hf : Fr [] w w') : CW w0 w' q p l bad := by
  obtain ⟨v, h1, h2⟩ := h.ex
  exact ⟨hf.obj h.cod (by simp), ⟨v, hf.obj h1 (by simp), own_fr h2 hf (by simp)⟩, h.lo, h.pq, h.fr.trans hf⟩
theorem CW.set {w0 w : World} {q p : Nat} {l : List UInt8} {bad : Bool} (h : CW w0 w q p l bad) (b : Bool) : CW w0 (w.setCell ⟨q, 2, none⟩ (.bool b)) q p l b := by
  obtain ⟨v, h1, h2⟩ := h.ex
  have hf : Fr [q] w (w.setCell ⟨q, 2, none⟩ (.bool b)) := (Fr.refl _ _).setCell (by simp) _
  have := h.pq
  have := h.lo
  refine ⟨by rw [heap_setCell_same w q 2 _ _ _ h.cod]; rfl, ⟨v, hf.obj h1 (by simp; omega), own_fr h2 hf (by intro g hg; have := (own_lt h2 hg).1; simp; omega)⟩, h.lo, h.pq, h.fr.setCell (by intro hlt; exfalso; simp at hlt; omega) _⟩
/-- what is neither the codec nor its Writer nor a row of bytes stays -/
def Kp (q p : Nat) (w w' : World) : Prop := ∀ (k : Nat) (cs : Array Value) (T : Nat), w.heap[k]? = some (.cells cs T) → k ≠ q → k ≠ p → T ≠ 5 → w'.heap[k]? = some (.cells cs T)
theorem Kp.trans {q p : Nat} {a b c : World} (h : Kp q p a b) (k : Kp q p b c) : Kp q p a c := fun i cs T hi h1 h2 h3 => k i cs T (h i cs T hi h1 h2 h3) h1 h2 h3
theorem Kp.of_fr {q p : Nat} {a b : World} (h : Fr [q, p] a b) : Kp q p a b := fun i cs T hi h1 h2 _ => h.obj hi (by simp; exact ⟨h1, h2⟩)
theorem Kp.of_puts {q p B : Nat} {w w' : World} {v v' : Value} {l l' : List UInt8} (h2 : w.ownsRow B 5 1 v l.length (l.map B8)) (hp : Puts B w w' p v v' l') : Kp q p w w' := by
  intro k cs T hk h1 h3 h4
  refine hp.fr.obj hk ?_
  intro hm
  rcases List.mem_cons.1 hm with e | hm
  · exact h3 e
  · have hm : v.ownBlock = some k := by simpa using hm
    rcases h2.2 with ⟨rfl, _⟩ | ⟨g, cap, cur, rfl, _, hh, _⟩
    · simp [Value.ownBlock] at hm
    · simp only [Value.ownBlock, Option.some.injEq] at hm
      subst hm
      rw [hk] at hh
      simp at hh
      exact h4 hh.2
theorem CW.puts {w0 w w' : World} {q p : Nat} {l l' : List UInt8} {bad : Bool} {v v' : Value} (h : CW w0 w q p l bad) (h1 : w.heap[p]? = some (.cells #[v] 111)) (h2 : w.ownsRow (q + 1) 5 1 v l.length (l.map B8)) (hp : Puts (q + 1) w w' p v v' l') : CW w0 w' q p l' bad := by
  have := h.pq
  have := h.lo
  have := h.fr.size
  refine ⟨hp.fr.obj h.cod ?_, ⟨v', hp.obj, hp.own⟩, h.lo, h.pq, h.fr.next hp.fr fun i hi hlt => ?_⟩
  · intro hm
    rcases List.mem_cons.1 hm with e | hm
    · omega
    · have := (own_lt h2 (g := q) (by simpa using hm)).1; omega
  · rcases List.mem_cons.1 hi with rfl | hi
    · omega
    · have := (own_lt h2 (g := i) (by simpa using hi)).1; omega
/-- the number that is written for z -/
def numU (z add : Int) : Int := IntKind.u64.wrap (IntKind.i64.wrap (z + add))
theorem numU_bd (z add : Int) : 0 ≤ numU z add ∧ numU z add < 18446744073709551616 := by
  unfold numU
  rw [wrap64u]
  omega
theorem numU_in {z add : Int} (h : 0 ≤ z + add) (h1 : z + add < 9223372036854775808) : numU z add = z + add := by
  unfold numU
  rw [IntWalk.i64_in _ (by omega), wrapU_int _ h (by omega)]
/-- may the number stand? -/
def okN (bad : Bool) (z low most : Int) : Bool := bad || !inB z low most
theorem okN_bad (z low most : Int) : okN true z low most = true := rfl
theorem okN_low {z low most : Int} (h : z < low) : okN false z low most = true := by unfold okN; rw [inB_false (by omega)]; rfl
theorem okN_most {z low most : Int} (h : most ≤ z) : okN false z low most = true := by unfold okN; rw [inB_false (by omega)]; rfl
theorem okN_in {z low most : Int} (h : low ≤ z) (h1 : z < most) : okN false z low most = false := by unfold okN; rw [inB_true h h1]; rfl
/-- the bool that a codec keeps when a number is tried -/
theorem cod_cells {w : World} {q : Nat} {a b : Value} {bad : Bool} (h : w.heap[q]? = some (.cells #[a, b, .bool bad] 96)) : w.cell? ⟨q, 0, none⟩ = some a ∧ w.cell? ⟨q, 1, none⟩ = some b ∧ w.cell? ⟨q, 2, none⟩ = some (.bool bad) ∧ w.frozen? ⟨q, 2, none⟩ = false :=
  ⟨cell_of_row w q 0 _ _ _ h, cell_of_row w q 1 _ _ _ h, cell_of_row w q 2 _ _ _ h, frozen_of_row w q 2 _ _ h⟩
set_option maxRecDepth 100000 in
set_option maxHeartbeats 1600000 in
theorem num_W (w0 w : World) (q p : Nat) (l : List UInt8) (bad : Bool) (wd b o : Nat) (z low most add : Int) (h : CW w0 w q p l bad) (hw : Wd wd) (hn : w.cell? ⟨b, o, none⟩ = some (.int .i64 z)) (hbq : b ≠ q) (hbp : b ≠ p) (hroom : l.length ≤ 1000) :
    Calls Try.prog 56 #[.pointer (some ⟨q, 0, none⟩), .int .i64 wd, .pointer (some ⟨b, o, none⟩), .int .i64 low, .int .i64 most, .int .i64 add] w fun e w' => e = .returned (.tuple #[]) ∧ CW w0 w' q p (l ++ by8 wd (numU z add).toNat) (okN bad z low most) ∧ Kp q p w w' := by
  obtain ⟨c0, c1, c2, c2f⟩ := cod_cells h.cod
  have H := Lib.hid h
  clear h
  go_enter Try.func56, Try.ntmps56
  cases bad
  · by_cases h1 : z < low
    · have hd1 : decide (z < low) = true := decide_eq_true h1
      go_wp2_with fail
      obtain ⟨w1, hw1⟩ : ∃ w1, w1 = w.setCell ⟨q, 2, none⟩ (.bool true) := ⟨_, rfl⟩
      rw [← hw1]
      have hc1 : CW w0 w1 q p l true := by rw [hw1]; exact H.out.set true
      have hf1 : Fr [q] w w1 := by rw [hw1]; exact (Fr.refl _ _).setCell (by simp) _
      have hn1 := hf1.cell hn (by simp; exact hbq)
      have HK1 := Lib.hid (Kp.of_fr (q := q) (p := p) (hf1.mono (T := [q, p]) (by intro k hk _; simp at hk; simp [hk])))
      have HC1 := Lib.hid hc1
      have HN1 := Lib.hid (show okN false z low most = true from okN_low h1)
      have HN := Lib.hid hn1
      obtain ⟨d0, d1, _, _⟩ := cod_cells hc1.cod
      have hU : IntKind.u64.wrap (IntKind.i64.wrap (z + add)) = numU z add := rfl
      clear hw1 hf1 hc1 hn c0 c1 c2 c2f
      go_still_tail 11, (by kernel_rfl)
      change wpList _ _ _ _ _ w1.drew
      have hC2 := HC1.out.still ((Fr.refl [] w1).drew)
      have hK2 : Kp q p w w1.drew := HK1.out
      generalize w1.drew = w2 at hC2 hK2
      have HC2 := Lib.hid hC2
      have HK2 := Lib.hid hK2
      clear hC2 hK2
      go_wp2_with fail
      obtain ⟨v, a1, a2⟩ := HC2.out.ex
      have hbd := numU_bd z add
      have hp := HC2.out.pq
      refine (Num_int (q + 1) p v l wd (numU z add) w2 a1 a2 (by intro e; have := (own_lt a2 e).1; omega) HC2.out.lt hw hbd.1 hbd.2 (by omega)).mono ?_
      rintro e w3 ⟨rfl, v', hpu⟩
      have HC3 := Lib.hid (HC2.out.puts a1 a2 hpu)
      have HK3 := Lib.hid (HK2.out.trans (Kp.of_puts a2 hpu))
      clear a1 a2 hpu hU
      go_wp2
      go_end0
      exact ⟨rfl, by rw [HN1.out]; exact HC3.out, HK3.out⟩
    · by_cases h2 : most ≤ z
      · have hd1 : decide (z < low) = false := decide_eq_false h1
        have hd2 : decide (most ≤ z) = true := decide_eq_true h2
        go_wp2_with fail
        obtain ⟨w1, hw1⟩ : ∃ w1, w1 = w.setCell ⟨q, 2, none⟩ (.bool true) := ⟨_, rfl⟩
        rw [← hw1]
        have hc1 : CW w0 w1 q p l true := by rw [hw1]; exact H.out.set true
        have hf1 : Fr [q] w w1 := by rw [hw1]; exact (Fr.refl _ _).setCell (by simp) _
        have hn1 := hf1.cell hn (by simp; exact hbq)
        have HK1 := Lib.hid (Kp.of_fr (q := q) (p := p) (hf1.mono (T := [q, p]) (by intro k hk _; simp at hk; simp [hk])))
        have HC1 := Lib.hid hc1
        have HN1 := Lib.hid (show okN false z low most = true from okN_most h2)
        have HN := Lib.hid hn1
        obtain ⟨d0, d1, _, _⟩ := cod_cells hc1.cod
        have hU : IntKind.u64.wrap (IntKind.i64.wrap (z + add)) = numU z add := rfl
        clear hw1 hf1 hc1 hn c0 c1 c2 c2f
        go_still_tail 11, (by kernel_rfl)
        change wpList _ _ _ _ _ w1.drew
        have hC2 := HC1.out.still ((Fr.refl [] w1).drew)
        have hK2 : Kp q p w w1.drew := HK1.out
        generalize w1.drew = w2 at hC2 hK2
        have HC2 := Lib.hid hC2
        have HK2 := Lib.hid hK2
        clear hC2 hK2
        go_wp2_with fail
        obtain ⟨v, a1, a2⟩ := HC2.out.ex
        have hbd := numU_bd z add
        have hp := HC2.out.pq
        refine (Num_int (q + 1) p v l wd (numU z add) w2 a1 a2 (by intro e; have := (own_lt a2 e).1; omega) HC2.out.lt hw hbd.1 hbd.2 (by omega)).mono ?_
        rintro e w3 ⟨rfl, v', hpu⟩
        have HC3 := Lib.hid (HC2.out.puts a1 a2 hpu)
        have HK3 := Lib.hid (HK2.out.trans (Kp.of_puts a2 hpu))
        clear a1 a2 hpu hU
        go_wp2
        go_end0
        exact ⟨rfl, by rw [HN1.out]; exact HC3.out, HK3.out⟩
      · have hd1 : decide (z < low) = false := decide_eq_false h1
        have hd2 : decide (most ≤ z) = false := decide_eq_false h2
        go_wp2_with fail
        obtain ⟨w1, hw1⟩ : ∃ w1, w1 = w.setCell ⟨q, 2, none⟩ (.bool false) := ⟨_, rfl⟩
        rw [← hw1]
        have hc1 : CW w0 w1 q p l false := by rw [hw1]; exact H.out.set false
        have hf1 : Fr [q] w w1 := by rw [hw1]; exact (Fr.refl _ _).setCell (by simp) _
        have hn1 := hf1.cell hn (by simp; exact hbq)
        have HK1 := Lib.hid (Kp.of_fr (q := q) (p := p) (hf1.mono (T := [q, p]) (by intro k hk _; simp at hk; simp [hk])))
        have HC1 := Lib.hid hc1
        have HN1 := Lib.hid (show okN false z low most = false from okN_in (by omega) (by omega))
        have HN := Lib.hid hn1
        obtain ⟨d0, d1, _, _⟩ := cod_cells hc1.cod
        have hU : IntKind.u64.wrap (IntKind.i64.wrap (z + add)) = numU z add := rfl
        clear hw1 hf1 hc1 hn c0 c1 c2 c2f
        go_still_tail 11, (by kernel_rfl)
        change wpList _ _ _ _ _ w1.drew
        have hC2 := HC1.out.still ((Fr.refl [] w1).drew)
        have hK2 : Kp q p w w1.drew := HK1.out
        generalize w1.drew = w2 at hC2 hK2
        have HC2 := Lib.hid hC2
        have HK2 := Lib.hid hK2
        clear hC2 hK2
        go_wp2_with fail
        obtain ⟨v, a1, a2⟩ := HC2.out.ex
        have hbd := numU_bd z add
        have hp := HC2.out.pq
        refine (Num_int (q + 1) p v l wd (numU z add) w2 a1 a2 (by intro e; have := (own_lt a2 e).1; omega) HC2.out.lt hw hbd.1 hbd.2 (by omega)).mono ?_
        rintro e w3 ⟨rfl, v', hpu⟩
        have HC3 := Lib.hid (HC2.out.puts a1 a2 hpu)
        have HK3 := Lib.hid (HK2.out.trans (Kp.of_puts a2 hpu))
        clear a1 a2 hpu hU
        go_wp2
        go_end0
        exact ⟨rfl, by rw [HN1.out]; exact HC3.out, HK3.out⟩
  · skip
    go_wp2_with fail
    obtain ⟨w1, hw1⟩ : ∃ w1, w1 = w.setCell ⟨q, 2, none⟩ (.bool true) := ⟨_, rfl⟩
    rw [← hw1]
    have hc1 : CW w0 w1 q p l true := by rw [hw1]; exact H.out.set true
    have hf1 : Fr [q] w w1 := by rw [hw1]; exact (Fr.refl _ _).setCell (by simp) _
    have hn1 := hf1.cell hn (by simp; exact hbq)
    have HK1 := Lib.hid (Kp.of_fr (q := q) (p := p) (hf1.mono (T := [q, p]) (by intro k hk _; simp at hk; simp [hk])))
    have HC1 := Lib.hid hc1
    have HN1 := Lib.hid (show okN true z low most = true from okN_bad _ _ _)
    have HN := Lib.hid hn1
    obtain ⟨d0, d1, _, _⟩ := cod_cells hc1.cod
    have hU : IntKind.u64.wrap (IntKind.i64.wrap (z + add)) = numU z add := rfl
    clear hw1 hf1 hc1 hn c0 c1 c2 c2f
    go_still_tail 11, (by kernel_rfl)
    change wpList _ _ _ _ _ w1.drew
    have hC2 := HC1.out.still ((Fr.refl [] w1).drew)
    have hK2 : Kp q p w w1.drew := HK1.out
    generalize w1.drew = w2 at hC2 hK2
    have HC2 := Lib.hid hC2
    have HK2 := Lib.hid hK2
    clear hC2 hK2
    go_wp2_with fail
    obtain ⟨v, a1, a2⟩ := HC2.out.ex
    have hbd := numU_bd z add
    have hp := HC2.out.pq
    refine (Num_int (q + 1) p v l wd (numU z add) w2 a1 a2 (by intro e; have := (own_lt a2 e).1; omega) HC2.out.lt hw hbd.1 hbd.2 (by omega)).mono ?_
    rintro e w3 ⟨rfl, v', hpu⟩
    have HC3 := Lib.hid (HC2.out.puts a1 a2 hpu)
    have HK3 := Lib.hid (HK2.out.trans (Kp.of_puts a2 hpu))
    clear a1 a2 hpu hU
    go_wp2
    go_end0
    exact ⟨rfl, by rw [HN1.out]; exact HC3.out, HK3.out⟩
/-- a codec that reads -/
structure CR (w : World) (q p g : Nat) (l : List UInt8) (pos : Nat) (bad : Bool) : Prop where
  cod : w.heap[q]? = some (.cells #[.pointer none, .pointer (some ⟨p, 0, none⟩), .bool bad] 96)
  rd : Rdr w p g l pos
  qp : q ≠ p
  qg : q ≠ g
theorem CR.fr {S : List Nat} {w w' : World} {q p g : Nat} {l : List UInt8} {pos : Nat} {bad : Bool} (h : CR w q p g l pos bad) (hf : Fr S w w') (hq : q ∉ S) (hp : p ∉ S) (hg : g ∉ S) : CR w' q p g l pos bad :=
  ⟨hf.obj h.cod hq, h.rd.fr hf hp hg, h.qp, h.qg⟩
theorem CR.set {w : World} {q p g : Nat} {l : List UInt8} {pos : Nat} {bad : Bool} (h : CR w q p g l pos bad) (b : Bool) : CR (w.setCell ⟨q, 2, none⟩ (.bool b)) q p g l pos b := by
  have hf : Fr [q] w (w.setCell ⟨q, 2, none⟩ (.bool b)) := (Fr.refl _ _).setCell (by simp) _
  exact ⟨by rw [heap_setCell_same w q 2 _ _ _ h.cod]; rfl, h.rd.fr hf (by simp; exact fun e => h.qp e.symm) (by simp; exact fun e => h.qg e.symm), h.qp, h.qg⟩
set_option maxRecDepth 100000 in
set_option maxHeartbeats 1600000 in
theorem num_R (w : World) (q p g : Nat) (l : List UInt8) (pos : Nat) (bad : Bool) (wd b o T : Nat) (cs : Array Value) (low most add : Int) (h : CR w q p g l pos bad) (hw : Wd wd) (hwd : wd ≤ 4) (hob : w.heap[b]? = some (.cells cs T)) (ho : o < cs.size) (hbq : b ≠ q) (hbp : b ≠ p) (hbg : b ≠ g) (hadd : 0 ≤ add ∧ add ≤ 1) (hl : l.length ≤ 1000) (hpos : pos + wd ≤ l.length) :
    Calls Try.prog 56 #[.pointer (some ⟨q, 0, none⟩), .int .i64 wd, .pointer (some ⟨b, o, none⟩), .int .i64 low, .int .i64 most, .int .i64 add] w fun e w' => e = .returned (.tuple #[]) ∧ CR w' q p g l (pos + wd) (okN bad ((nm l pos wd : Int) - add) low most) ∧ w'.heap[b]? = some (.cells (cs.setIfInBounds o (.int .i64 ((nm l pos wd : Int) - add))) T) ∧ Fr [q, p, b] w w' := by
  obtain ⟨c0, c1, c2, c2f⟩ := cod_cells h.cod
  have hcb := cell_of_row w b o _ _ _ hob
  rw [Array.getElem?_eq_getElem ho] at hcb
  have hfb := frozen_of_row w b o _ _ hob
  have H := Lib.hid h
  have HOB := Lib.hid hob
  have hnl := nm_le l pos wd hwd
  have hw1 := wrap_nm l pos wd hwd
  have hw2 : IntKind.i64.wrap ((nm l pos wd : Int) - add) = (nm l pos wd : Int) - add := IntWalk.i64_in _ (by omega)
  clear h hob hcb hfb
  go_enter Try.func56, Try.ntmps56
  go_wp2_with fail
  refine (NumR w p g l pos wd H.out.rd (by omega) hw hwd hpos).mono ?_
  rintro e w1 ⟨rfl, hr, hf⟩
  have HR1 := Lib.hid hr
  have hqp := H.out.qp
  have hqg := H.out.qg
  have HCO1 := Lib.hid (hf.obj H.out.cod (by simp; exact hqp))
  have hob1 := hf.obj HOB.out (by simp; exact hbp)
  have hcb := cell_of_row w1 b o _ _ _ hob1
  rw [Array.getElem?_eq_getElem ho] at hcb
  have hfb := frozen_of_row w1 b o _ _ hob1
  have HOB1 := Lib.hid hob1
  have HF1 := Lib.hid hf
  clear hr hf hob1 c0 c1 c2 c2f
  obtain ⟨y, hy⟩ : ∃ y, y = (nm l pos wd : Int) - add := ⟨_, rfl⟩
  have HY := Lib.hid hy.symm
  rw [← hy] at hw2
  have hyy := hy.symm
  clear hy
  go_upto_region 2 with fail

  obtain ⟨w3, hw3⟩ : ∃ w3, w3 = w1.setCell ⟨b, o, none⟩ (.int .i64 y) := ⟨_, rfl⟩
  rw [← hw3]
  have hf3 : Fr [b] w1 w3 := by rw [hw3]; exact (Fr.refl _ _).setCell (by simp) _
  have hob3 : w3.heap[b]? = some (.cells (cs.setIfInBounds o (.int .i64 y)) T) := by rw [hw3]; exact heap_setCell_same w1 b o _ _ _ HOB1.out
  have hc3 : CR w3 q p g l (pos + wd) bad := ⟨hf3.obj HCO1.out (by simp; exact Ne.symm hbq), HR1.out.fr hf3 (by simp; exact Ne.symm hbp) (by simp; exact Ne.symm hbg), hqp, hqg⟩
  have hyc : w3.cell? ⟨b, o, none⟩ = some (.int .i64 y) := by
    rw [cell_of_row w3 b o _ _ _ hob3, Array.getElem?_setIfInBounds_self_of_lt ho]
  have HF3 := Lib.hid ((HF1.out.mono (T := [q, p, b]) (by simp)).trans (hf3.mono (by simp)))
  have HOB3 := Lib.hid hob3
  have HC3 := Lib.hid hc3
  obtain ⟨c0, c1, c2, c2f⟩ := cod_cells hc3.cod
  clear hw3 hf3 hob3 hc3 hcb hfb hyy hw1 hw2
  cases bad
  · by_cases h1 : y < low
    · have hd1 : decide (y < low) = true := decide_eq_true h1
      go_wp2_with fail
      go_end0
      exact ⟨rfl, by rw [show okN false ((nm l pos wd : Int) - add) low most = true from by rw [HY.out]; exact okN_low h1]; exact HC3.out.set true, by rw [HY.out]; exact ((Fr.refl [q] w3).setCell (p := ⟨q, 2, none⟩) (by simp) _).obj HOB3.out (by simp; exact hbq), (HF3.out).setCell (by simp) _⟩
    · by_cases h2 : most ≤ y
      · have hd1 : decide (y < low) = false := decide_eq_false h1
        have hd2 : decide (most ≤ y) = true := decide_eq_true h2
        go_wp2_with fail
        go_end0
        exact ⟨rfl, by rw [show okN false ((nm l pos wd : Int) - add) low most = true from by rw [HY.out]; exact okN_most h2]; exact HC3.out.set true, by rw [HY.out]; exact ((Fr.refl [q] w3).setCell (p := ⟨q, 2, none⟩) (by simp) _).obj HOB3.out (by simp; exact hbq), (HF3.out).setCell (by simp) _⟩
      · have hd1 : decide (y < low) = false := decide_eq_false h1
        have hd2 : decide (most ≤ y) = false := decide_eq_false h2
        go_wp2_with fail
        go_end0
        exact ⟨rfl, by rw [show okN false ((nm l pos wd : Int) - add) low most = false from by rw [HY.out]; exact okN_in (by omega) (by omega)]; exact HC3.out.set false, by rw [HY.out]; exact ((Fr.refl [q] w3).setCell (p := ⟨q, 2, none⟩) (by simp) _).obj HOB3.out (by simp; exact hbq), (HF3.out).setCell (by simp) _⟩
  · skip
    go_wp2_with fail
    go_end0
    exact ⟨rfl, by rw [show okN true ((nm l pos wd : Int) - add) low most = true from by rw [HY.out]; exact okN_bad _ _ _]; exact HC3.out.set true, by rw [HY.out]; exact ((Fr.refl [q] w3).setCell (p := ⟨q, 2, none⟩) (by simp) _).obj HOB3.out (by simp; exact hbq), (HF3.out).setCell (by simp) _⟩
end Go.Proofs.Ytbhmfbhfofgfaaa
