/- Version 1's relationship as the codec carries it, both ways. -/
import Derived.Test.YtbhmfbhfofgfaaaOneB
namespace Go.Proofs.Ytbhmfbhfofgfaaa
open Go.RowKit

/-- a relationship record's fields -/
structure OneV where
  live : Bool
  fr : Int
  tu : Int
  fp : Int
  tp : Int
  fn : Int
  tn : Int
  ty : Int
  pr : Int
def OneV.cells (r : OneV) : List Value := [.bool r.live, .int .i64 r.fr, .int .i64 r.tu, .int .i64 r.fp, .int .i64 r.tp, .int .i64 r.fn, .int .i64 r.tn, .int .i64 r.ty, .int .i64 r.pr]
/-- the bytes that are written for whatever fields -/
def oU (r : OneV) : List UInt8 := by8 4 (numU r.fr 0).toNat ++ by8 4 (numU r.tu 0).toNat ++ by8 2 (numU r.ty 0).toNat ++ ptrsU [r.fp, r.fn, r.tp, r.tn] ++ ptrU r.pr
def oBad (r : OneV) : Bool := okN (okPs (okN (okN (okN false r.fr 0 1024) r.tu 0 1024) r.ty 0 200) [r.fp, r.fn, r.tp, r.tn]) r.pr (-1) 65536
theorem rel_W (w0 w : World) (q p b T : Nat) (r : OneV) (h : CW w0 w q p [] false) (hr : w0.heap[b]? = some (.cells r.cells.toArray T)) :
    Calls Try.prog 27 #[.pointer (some ⟨q, 0, none⟩), .pointer (some ⟨b, 0, none⟩)] w fun e w' => e = .returned (.tuple #[]) ∧ CW w0 w' q p (oU r) (oBad r) := by
  have H := Lib.hid h
  have hb : b < w0.heap.size := (Array.getElem?_eq_some_iff.1 hr).1
  have HN1 := Lib.hid (cell_of_row w0 b 1 _ _ _ hr)
  have HN2 := Lib.hid (cell_of_row w0 b 2 _ _ _ hr)
  have HN7 := Lib.hid (cell_of_row w0 b 7 _ _ _ hr)
  have HN8 := Lib.hid (cell_of_row w0 b 8 _ _ _ hr)
  have HC : Hid (∀ k, k < 4 → w0.cell? ⟨b, chO.getD k 0, none⟩ = some (.int .i64 ([r.fp, r.fn, r.tp, r.tn].getD k 0))) := by
    refine Lib.hid fun k hk => ?_
    rw [cell_of_row w0 b _ _ _ _ hr]
    rcases k with _ | _ | _ | _ | k <;> first | rfl | omega
  clear h hr
  go_enter Try.func27, Try.ntmps27
  go_wp2_with fail
  refine (link_W w0 w q p [] false b r.fr r.tu H.out HN1.out HN2.out hb (by simp)).mono ?_
  rintro e w1 ⟨rfl, h1, _⟩
  have H1 := Lib.hid h1
  clear h1
  go_wp2_with fail
  refine (token_W w0 w1 q p _ _ b 7 r.ty H1.out HN7.out hb (by simp only [List.length_append, by8_length, List.length_nil]; omega)).mono ?_
  rintro e w2 ⟨rfl, h1, _⟩
  have H2 := Lib.hid h1
  clear h1
  go_wp2_with fail
  refine (chains_W w0 w2 q p _ _ b [r.fp, r.fn, r.tp, r.tn] H2.out rfl HC.out hb (by simp only [List.length_append, by8_length, List.length_nil]; omega)).mono ?_
  rintro e w3 ⟨rfl, h1, _⟩
  have H3 := Lib.hid h1
  clear h1
  go_wp2_with fail
  refine (pointer_W w0 w3 q p _ _ b 8 r.pr 65536 H3.out HN8.out hb (by simp only [List.length_append, by8_length, List.length_nil, ptrsU_length, List.length_cons]; omega)).mono ?_
  rintro e w4 ⟨rfl, h1, _⟩
  have H4 := Lib.hid h1
  clear h1
  go_wp2
  go_end0
  exact ⟨rfl, H4.out⟩

theorem num_RL (w : World) (q p g : Nat) (l : List UInt8) (pos : Nat) (bad : Bool) (wd b o T : Nat) (cs : List Value) (low most add : Int) (h : CR w q p g l pos bad) (hw : Wd wd) (hwd : wd ≤ 4) (hob : w.heap[b]? = some (.cells cs.toArray T)) (ho : o < cs.length) (hbq : b ≠ q) (hbp : b ≠ p) (hbg : b ≠ g) (hadd : 0 ≤ add ∧ add ≤ 1) (hl : l.length ≤ 1000) (hpos : pos + wd ≤ l.length) :
    Calls Try.prog 56 #[.pointer (some ⟨q, 0, none⟩), .int .i64 wd, .pointer (some ⟨b, o, none⟩), .int .i64 low, .int .i64 most, .int .i64 add] w fun e w' => e = .returned (.tuple #[]) ∧ CR w' q p g l (pos + wd) (okN bad ((nm l pos wd : Int) - add) low most) ∧ w'.heap[b]? = some (.cells (cs.set o (.int .i64 ((nm l pos wd : Int) - add))).toArray T) ∧ Fr [q, p, b] w w' :=
  (num_R w q p g l pos bad wd b o T cs.toArray low most add h hw hwd hob (by simpa using ho) hbq hbp hbg hadd hl hpos).mono fun e w' ⟨h1, h2, h3, h4⟩ => ⟨h1, h2, by rw [h3]; simp, h4⟩
theorem pointer_R (w : World) (q p g : Nat) (l : List UInt8) (pos : Nat) (bad : Bool) (b o T : Nat) (cs : List Value) (most : Int) (h : CR w q p g l pos bad) (hob : w.heap[b]? = some (.cells cs.toArray T)) (ho : o < cs.length) (hbq : b ≠ q) (hbp : b ≠ p) (hbg : b ≠ g) (hl : l.length ≤ 1000) (hpos : pos + 4 ≤ l.length) :
    Calls Try.prog 53 #[.pointer (some ⟨q, 0, none⟩), .pointer (some ⟨b, o, none⟩), .int .i64 most] w fun e w' => e = .returned (.tuple #[]) ∧ CR w' q p g l (pos + 4) (okN bad ((nm l pos 4 : Int) - 1) (-1) most) ∧ w'.heap[b]? = some (.cells (cs.set o (.int .i64 ((nm l pos 4 : Int) - 1))).toArray T) ∧ Fr [q, p, b] w w' := by
  have H := Lib.hid h
  have HO := Lib.hid hob
  clear h hob
  go_enter Try.func53, Try.ntmps53
  go_wp2_with fail
  refine (num_RL w q p g l pos bad 4 b o T cs (-1) most 1 H.out (by unfold Wd; omega) (by omega) HO.out ho hbq hbp hbg (by omega) hl hpos).mono ?_
  rintro e w1 ⟨rfl, h1, h2, h3⟩
  have H1 := Lib.hid h1
  have H2 := Lib.hid h2
  have H3 := Lib.hid h3
  clear h1 h2 h3
  go_wp2
  go_end0
  exact ⟨rfl, H1.out, H2.out, H3.out⟩
theorem token_R (w : World) (q p g : Nat) (l : List UInt8) (pos : Nat) (bad : Bool) (b o T : Nat) (cs : List Value) (h : CR w q p g l pos bad) (hob : w.heap[b]? = some (.cells cs.toArray T)) (ho : o < cs.length) (hbq : b ≠ q) (hbp : b ≠ p) (hbg : b ≠ g) (hl : l.length ≤ 1000) (hpos : pos + 2 ≤ l.length) :
    Calls Try.prog 51 #[.pointer (some ⟨q, 0, none⟩), .pointer (some ⟨b, o, none⟩)] w fun e w' => e = .returned (.tuple #[]) ∧ CR w' q p g l (pos + 2) (okN bad ((nm l pos 2 : Int) - 0) 0 200) ∧ w'.heap[b]? = some (.cells (cs.set o (.int .i64 ((nm l pos 2 : Int) - 0))).toArray T) ∧ Fr [q, p, b] w w' := by
  have H := Lib.hid h
  have HO := Lib.hid hob
  clear h hob
  go_enter Try.func51, Try.ntmps51
  go_wp2_with fail
  refine (num_RL w q p g l pos bad 2 b o T cs 0 200 0 H.out (by unfold Wd; omega) (by omega) HO.out ho hbq hbp hbg (by omega) hl hpos).mono ?_
  rintro e w1 ⟨rfl, h1, h2, h3⟩
  have H1 := Lib.hid h1
  have H2 := Lib.hid h2
  have H3 := Lib.hid h3
  clear h1 h2 h3
  go_wp2
  go_end0
  exact ⟨rfl, H1.out, H2.out, H3.out⟩
theorem link_R (w : World) (q p g : Nat) (l : List UInt8) (pos : Nat) (bad : Bool) (b T : Nat) (cs : List Value) (h : CR w q p g l pos bad) (hob : w.heap[b]? = some (.cells cs.toArray T)) (ho : 3 ≤ cs.length) (hbq : b ≠ q) (hbp : b ≠ p) (hbg : b ≠ g) (hl : l.length ≤ 1000) (hpos : pos + 8 ≤ l.length) :
    Calls Try.prog 50 #[.pointer (some ⟨q, 0, none⟩), .pointer (some ⟨b, 0, none⟩)] w fun e w' => e = .returned (.tuple #[]) ∧ CR w' q p g l (pos + 4 + 4) (okN (okN bad ((nm l pos 4 : Int) - 0) 0 1024) ((nm l (pos + 4) 4 : Int) - 0) 0 1024) ∧ w'.heap[b]? = some (.cells ((cs.set 1 (.int .i64 ((nm l pos 4 : Int) - 0))).set 2 (.int .i64 ((nm l (pos + 4) 4 : Int) - 0))).toArray T) ∧ Fr [q, p, b] w w' := by
  have H := Lib.hid h
  have HO := Lib.hid hob
  clear h hob
  go_enter Try.func50, Try.ntmps50
  go_wp2_with fail
  refine (num_RL w q p g l pos bad 4 b 1 T cs 0 1024 0 H.out (by unfold Wd; omega) (by omega) HO.out (by omega) hbq hbp hbg (by omega) hl (by omega)).mono ?_
  rintro e w1 ⟨rfl, h1, h2, h3⟩
  have H1 := Lib.hid h1
  have H2 := Lib.hid h2
  have H3 := Lib.hid h3
  clear h1 h2 h3
  go_wp2_with fail
  refine (num_RL w1 q p g l _ _ 4 b 2 T _ 0 1024 0 H1.out (by unfold Wd; omega) (by omega) H2.out (by rw [List.length_set]; omega) hbq hbp hbg (by omega) hl (by omega)).mono ?_
  rintro e w2 ⟨rfl, h1, h2, h3⟩
  have H4 := Lib.hid h1
  have H5 := Lib.hid h2
  have H6 := Lib.hid (H3.out.trans h3)
  clear h1 h2 h3
  go_wp2
  go_end0
  exact ⟨rfl, H4.out, H5.out, H6.out⟩
/-- the numbers less one that stand one behind another -/
def chV (l : List UInt8) (pos : Nat) : Nat → List Int
  | 0 => []
  | k + 1 => chV l pos k ++ [(nm l (pos + 4 * k) 4 : Int) - 1]
set_option maxRecDepth 100000 in
set_option maxHeartbeats 1600000 in
theorem chains_R (w : World) (q p g : Nat) (l : List UInt8) (pos : Nat) (bad : Bool) (b T : Nat) (cs : List Value) (h : CR w q p g l pos bad) (hqg : g < w.heap.size) (hob : w.heap[b]? = some (.cells cs.toArray T)) (ho : 7 ≤ cs.length) (hbq : b ≠ q) (hbp : b ≠ p) (hbg : b ≠ g) (hl : l.length ≤ 1000) (hpos : pos + 16 ≤ l.length) :
    Calls Try.prog 52 #[.pointer (some ⟨q, 0, none⟩), .pointer (some ⟨b, 0, none⟩)] w fun e w' => e = .returned (.tuple #[]) ∧ CR w' q p g l (pos + 16) (okPs bad (chV l pos 4)) ∧ w'.heap[b]? = some (.cells (fills l pos cs chO 4).toArray T) ∧ Fr [q, p, b] w w' := by
  have H := Lib.hid h
  have HO := Lib.hid hob
  have hq1 : q < w.heap.size := (Array.getElem?_eq_some_iff.1 h.cod).1
  have hp1 : p < w.heap.size := h.rd.lt
  have hb1 : b < w.heap.size := (Array.getElem?_eq_some_iff.1 hob).1
  clear h hob
  go_enter Try.func52, Try.ntmps52
  go_wp2_with fail
  go_region
  obtain ⟨wa, hwa⟩ : ∃ wa, wa = (w.alloc (.cells #[.pointer (some ⟨b, 3, none⟩), .pointer (some ⟨b, 5, none⟩), .pointer (some ⟨b, 4, none⟩), .pointer (some ⟨b, 6, none⟩)] 101)).drew := ⟨_, rfl⟩
  rw [← hwa]
  have hfa : Fr [] w wa := by rw [hwa]; exact ((Fr.refl _ _).alloc _).drew
  have hsa : wa.heap[w.heap.size]? = some (.cells #[.pointer (some ⟨b, 3, none⟩), .pointer (some ⟨b, 5, none⟩), .pointer (some ⟨b, 4, none⟩), .pointer (some ⟨b, 6, none⟩)] 101) := by rw [hwa]; exact heap_alloc_new w _
  have HA := Lib.hid (H.out.fr hfa (by simp) (by simp) (by simp))
  have HOA := Lib.hid (hfa.obj HO.out (by simp))
  have HSA := Lib.hid hsa
  have hsq : w.heap.size ≠ q ∧ w.heap.size ≠ p ∧ w.heap.size ≠ b := by omega
  have HSP := Lib.hid hsq
  have HFA := Lib.hid hfa
  clear hwa hfa hsa hsq
  generalize w.heap.size = s at HSA HSP
  go_wp2_with fail
  go_loopw [20] (fun i wr => ∃ k : Nat, k ≤ 4 ∧ i = .int .i64 k ∧ CR wr q p g l (pos + 4 * k) (okPs bad (chV l pos k)) ∧ wr.heap[b]? = some (.cells (fills l pos cs chO k).toArray T) ∧ Fr [q, p, b] wa wr) (fun i _ => 4 - (intOf i).toNat)
  case atStart => exact ⟨0, by omega, rfl, HA.out, HOA.out, Fr.refl _ _⟩
  case round =>
    obtain ⟨k, hk, rfl, hcr, hob, hfr⟩ := hrel
    have HCR := Lib.hid hcr
    have HOB := Lib.hid hob
    have HFR := Lib.hid hfr
    clear hcr hob hfr
    by_cases hlt : k < 4
    · have hs := HFR.out.obj HSA.out (by simp; exact HSP.out)
      have hcell : wr.cell? ⟨s, k, none⟩ = some (.pointer (some ⟨b, chO.getD k 0, none⟩)) := by
        rw [cell_of_row wr _ k _ _ _ hs]
        rcases k with _ | _ | _ | _ | k <;> first | rfl | omega
      have HK := Lib.hid (show chO.getD k 0 < (fills l pos cs chO k).length by
        rw [fills_length]
        rcases k with _ | _ | _ | _ | k <;> simp [chO] <;> omega)
      have HX := Lib.hid (show fills l pos cs chO (k + 1) = (fills l pos cs chO k).set (chO.getD k 0) (.int .i64 ((nm l (pos + 4 * k) 4 : Int) - 1)) from rfl)
      have HV := Lib.hid (show okPs bad (chV l pos (k + 1)) = okN (okPs bad (chV l pos k)) ((nm l (pos + 4 * k) 4 : Int) - 1) (-1) 2048 from okPs_snoc _ _ _)
      clear hs
      generalize chO.getD k 0 = o at hcell HK HX
      go_wp2_with fail
      refine (pointer_R wr q p g l _ _ b o T _ 2048 HCR.out HOB.out HK.out hbq hbp hbg hl (by omega)).mono ?_
      rintro e w2 ⟨rfl, h1, h2, h3⟩
      have H1 := Lib.hid h1
      have H2 := Lib.hid h2
      have H3 := Lib.hid (HFR.out.trans h3)
      clear h1 h2 h3
      go_wp2_with fail
      go_roundw
      case rel =>
        refine ⟨k + 1, by omega, by go_num, ?_, ?_, H3.out⟩
        · rw [HV.out, show pos + 4 * (k + 1) = pos + 4 * k + 4 by omega]
          exact H1.out
        · rw [HX.out]
          exact H2.out
      case measure => simp [intOf] <;> omega
    · have HE := Lib.hid (show k = 4 by omega)
      go_wp2
      go_end0
      have h1 := HCR.out
      have h2 := HOB.out
      rw [HE.out] at h1 h2
      exact ⟨rfl, h1, h2, (HFA.out.mono (by simp)).trans HFR.out⟩
/-- the relationship that thirty bytes may be -/
def oDec (l : List UInt8) : OneV := ⟨true, (nm l 0 4 : Int), nm l 4 4, nm l 10 4 - 1, nm l 18 4 - 1, nm l 14 4 - 1, nm l 22 4 - 1, nm l 8 2, nm l 26 4 - 1⟩
theorem rel_R (w : World) (q p g b : Nat) (l : List UInt8) (h : CR w q p g l 0 false) (hob : w.heap[b]? = some (.cells (OneV.cells ⟨true, 0, 0, 0, 0, 0, 0, 0, 0⟩).toArray 25)) (hqg : g < w.heap.size) (hbq : b ≠ q) (hbp : b ≠ p) (hbg : b ≠ g) (hl : l.length = 30) :
    Calls Try.prog 27 #[.pointer (some ⟨q, 0, none⟩), .pointer (some ⟨b, 0, none⟩)] w fun e w' => e = .returned (.tuple #[]) ∧ CR w' q p g l 30 (oBad (oDec l)) ∧ w'.heap[b]? = some (.cells (oDec l).cells.toArray 25) ∧ Fr [q, p, b] w w' := by
  have H := Lib.hid h
  have HO := Lib.hid hob
  clear h hob
  go_enter Try.func27, Try.ntmps27
  go_wp2_with fail
  refine (link_R w q p g l 0 false b _ _ H.out HO.out (by simp [OneV.cells]) hbq hbp hbg (by omega) (by omega)).mono ?_
  rintro e w1 ⟨rfl, h1, h2, h3⟩
  have H1 := Lib.hid h1
  have H2 := Lib.hid h2
  have H3 := Lib.hid h3
  clear h1 h2 h3
  go_wp2_with fail
  refine (token_R w1 q p g l _ _ b 7 _ _ H1.out H2.out (by simp [OneV.cells]) hbq hbp hbg (by omega) (by omega)).mono ?_
  rintro e w2 ⟨rfl, h1, h2, h3⟩
  have H4 := Lib.hid h1
  have H5 := Lib.hid h2
  have H6 := Lib.hid (H3.out.trans h3)
  clear h1 h2 h3
  go_wp2_with fail
  refine (chains_R w2 q p g l _ _ b _ _ H4.out (by have := H6.out.size; omega) H5.out (by simp [OneV.cells]) hbq hbp hbg (by omega) (by omega)).mono ?_
  rintro e w3 ⟨rfl, h1, h2, h3⟩
  have H7 := Lib.hid h1
  have H8 := Lib.hid h2
  have H9 := Lib.hid (H6.out.trans h3)
  clear h1 h2 h3
  go_wp2_with fail
  refine (pointer_R w3 q p g l _ _ b 8 _ _ 65536 H7.out H8.out (by rw [fills_length]; simp [OneV.cells]) hbq hbp hbg (by omega) (by omega)).mono ?_
  rintro e w4 ⟨rfl, h1, h2, h3⟩
  have HA := Lib.hid h1
  have HB := Lib.hid h2
  have HC := Lib.hid (H9.out.trans h3)
  clear h1 h2 h3
  go_wp2
  go_end0
  refine ⟨rfl, ?_, ?_, HC.out⟩
  · have := HA.out
    simpa [oBad, oDec, chV] using this
  · have := HB.out
    simpa [oDec, OneV.cells, fills, chO] using this
end Go.Proofs.Ytbhmfbhfofgfaaa
