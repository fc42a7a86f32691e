/- The codec of version 1's records: pointers, names, links and chains, written and read. -/
import Derived.Test.YtbhmfbhfofgfaaaOneA
import Derived.BigRegion
namespace Go.Proofs.Ytbhmfbhfofgfaaa
open Go.RowKit

/-- a number that stands in memory older than the codec -/
theorem num_W0 (w0 w : World) (q p : Nat) (l : List UInt8) (bad : Bool) (wd b o : Nat) (z low most add : Int) (h : CW w0 w q p l bad) (hw : Wd wd) (hn : w0.cell? ⟨b, o, none⟩ = some (.int .i64 z)) (hb : b < w0.heap.size) (hroom : l.length ≤ 1000) :
    Calls Try.prog 56 #[.pointer (some ⟨q, 0, none⟩), .int .i64 wd, .pointer (some ⟨b, o, none⟩), .int .i64 low, .int .i64 most, .int .i64 add] w fun e w' => e = .returned (.tuple #[]) ∧ CW w0 w' q p (l ++ by8 wd (numU z add).toNat) (okN bad z low most) ∧ Kp q p w w' := by
  have h1 := h.lo
  have h2 := h.pq
  exact num_W w0 w q p l bad wd b o z low most add h hw (h.fr.cell hn (by simp)) (by omega) (by omega) hroom
/-- a pointer's bytes -/
def ptrU (z : Int) : List UInt8 := by8 4 (numU z 1).toNat
theorem ptrU_length (z : Int) : (ptrU z).length = 4 := by unfold ptrU; rw [by8_length]
theorem pointer_W (w0 w : World) (q p : Nat) (l : List UInt8) (bad : Bool) (b o : Nat) (z most : Int) (h : CW w0 w q p l bad) (hn : w0.cell? ⟨b, o, none⟩ = some (.int .i64 z)) (hb : b < w0.heap.size) (hroom : l.length ≤ 1000) :
    Calls Try.prog 53 #[.pointer (some ⟨q, 0, none⟩), .pointer (some ⟨b, o, none⟩), .int .i64 most] w fun e w' => e = .returned (.tuple #[]) ∧ CW w0 w' q p (l ++ ptrU z) (okN bad z (-1) most) ∧ Kp q p w w' := by
  have H := Lib.hid h
  have HN := Lib.hid hn
  clear h hn
  go_enter Try.func53, Try.ntmps53
  go_wp2_with fail
  refine (num_W0 w0 w q p l bad 4 b o z (-1) most 1 H.out (by unfold Wd; omega) HN.out hb hroom).mono ?_
  rintro e w1 ⟨rfl, h1, h2⟩
  have H1 := Lib.hid h1
  have H2 := Lib.hid h2
  clear h1 h2
  go_wp2
  go_end0
  exact ⟨rfl, H1.out, H2.out⟩
theorem token_W (w0 w : World) (q p : Nat) (l : List UInt8) (bad : Bool) (b o : Nat) (z : Int) (h : CW w0 w q p l bad) (hn : w0.cell? ⟨b, o, none⟩ = some (.int .i64 z)) (hb : b < w0.heap.size) (hroom : l.length ≤ 1000) :
    Calls Try.prog 51 #[.pointer (some ⟨q, 0, none⟩), .pointer (some ⟨b, o, none⟩)] w fun e w' => e = .returned (.tuple #[]) ∧ CW w0 w' q p (l ++ by8 2 (numU z 0).toNat) (okN bad z 0 200) ∧ Kp q p w w' := by
  have H := Lib.hid h
  have HN := Lib.hid hn
  clear h hn
  go_enter Try.func51, Try.ntmps51
  go_wp2_with fail
  refine (num_W0 w0 w q p l bad 2 b o z 0 200 0 H.out (by unfold Wd; omega) HN.out hb hroom).mono ?_
  rintro e w1 ⟨rfl, h1, h2⟩
  have H1 := Lib.hid h1
  have H2 := Lib.hid h2
  clear h1 h2
  go_wp2
  go_end0
  exact ⟨rfl, H1.out, H2.out⟩
theorem link_W (w0 w : World) (q p : Nat) (l : List UInt8) (bad : Bool) (b : Nat) (fr tu : Int) (h : CW w0 w q p l bad) (h1 : w0.cell? ⟨b, 1, none⟩ = some (.int .i64 fr)) (h2 : w0.cell? ⟨b, 2, none⟩ = some (.int .i64 tu)) (hb : b < w0.heap.size) (hroom : l.length ≤ 900) :
    Calls Try.prog 50 #[.pointer (some ⟨q, 0, none⟩), .pointer (some ⟨b, 0, none⟩)] w fun e w' => e = .returned (.tuple #[]) ∧ CW w0 w' q p (l ++ by8 4 (numU fr 0).toNat ++ by8 4 (numU tu 0).toNat) (okN (okN bad fr 0 1024) tu 0 1024) ∧ Kp q p w w' := by
  have H := Lib.hid h
  have HN := Lib.hid h1
  have HM := Lib.hid h2
  clear h h1 h2
  go_enter Try.func50, Try.ntmps50
  go_wp2_with fail
  refine (num_W0 w0 w q p l bad 4 b 1 fr 0 1024 0 H.out (by unfold Wd; omega) HN.out hb (by omega)).mono ?_
  rintro e w1 ⟨rfl, h1, h2⟩
  have H1 := Lib.hid h1
  have H2 := Lib.hid h2
  clear h1 h2
  go_wp2_with fail
  refine (num_W0 w0 w1 q p _ _ 4 b 2 tu 0 1024 0 H1.out (by unfold Wd; omega) HM.out hb (by rw [List.length_append, by8_length]; omega)).mono ?_
  rintro e w2 ⟨rfl, h1, h2⟩
  have H3 := Lib.hid h1
  have H4 := Lib.hid (H2.out.trans h2)
  clear h1 h2
  go_wp2
  go_end0
  exact ⟨rfl, H3.out, H4.out⟩
def ptrsU (l : List Int) : List UInt8 := l.flatMap ptrU
theorem ptrsU_length (l : List Int) : (ptrsU l).length = 4 * l.length := by
  induction l with
  | nil => rfl
  | cons x l ih =>
    unfold ptrsU at ih ⊢
    rw [List.flatMap_cons, List.length_append, ih, ptrU_length, List.length_cons]; omega
theorem ptrsU_snoc (l : List Int) (x : Int) : ptrsU (l ++ [x]) = ptrsU l ++ ptrU x := by
  unfold ptrsU; rw [List.flatMap_append]; simp
def okPs (bad : Bool) (l : List Int) : Bool := l.foldl (fun b z => okN b z (-1) 2048) bad
theorem okPs_snoc (bad : Bool) (l : List Int) (x : Int) : okPs bad (l ++ [x]) = okN (okPs bad l) x (-1) 2048 := by unfold okPs; rw [List.foldl_append]; rfl
/-- the places of a link's chains -/
def chO : List Nat := [3, 5, 4, 6]
set_option maxRecDepth 100000 in
set_option maxHeartbeats 1600000 in
theorem chains_W (w0 w : World) (q p : Nat) (l : List UInt8) (bad : Bool) (b : Nat) (zs : List Int) (h : CW w0 w q p l bad) (hz : zs.length = 4) (hc : ∀ k, k < 4 → w0.cell? ⟨b, chO.getD k 0, none⟩ = some (.int .i64 (zs.getD k 0))) (hb : b < w0.heap.size) (hroom : l.length ≤ 900) :
    Calls Try.prog 52 #[.pointer (some ⟨q, 0, none⟩), .pointer (some ⟨b, 0, none⟩)] w fun e w' => e = .returned (.tuple #[]) ∧ CW w0 w' q p (l ++ ptrsU zs) (okPs bad zs) ∧ Kp q p w w' := by
  have H := Lib.hid h
  have HC := Lib.hid hc
  have HZ := Lib.hid hz
  clear h hc hz
  go_enter Try.func52, Try.ntmps52
  go_wp2_with fail
  go_region
  obtain ⟨wa, hwa⟩ : ∃ wa, wa = (w.alloc (.cells #[.pointer (some ⟨b, 3, none⟩), .pointer (some ⟨b, 5, none⟩), .pointer (some ⟨b, 4, none⟩), .pointer (some ⟨b, 6, none⟩)] 101)).drew := ⟨_, rfl⟩
  rw [← hwa]
  have hfa : Fr [] w wa := by rw [hwa]; exact ((Fr.refl _ _).alloc _).drew
  have hsa : wa.heap[w.heap.size]? = some (.cells #[.pointer (some ⟨b, 3, none⟩), .pointer (some ⟨b, 5, none⟩), .pointer (some ⟨b, 4, none⟩), .pointer (some ⟨b, 6, none⟩)] 101) := by rw [hwa]; exact heap_alloc_new w _
  have HA := Lib.hid (H.out.still hfa)
  have hka : Kp q p w wa := Kp.of_fr (hfa.mono (by simp))
  have HKA := Lib.hid hka
  clear hka
  have HSA := Lib.hid hsa
  have hsq : w.heap.size ≠ q ∧ w.heap.size ≠ p := by
    have := H.out.lt
    have := H.out.pq
    omega
  have HSP := Lib.hid hsq
  clear hwa hfa hsa hsq
  go_wp2_with fail
  go_loopw [20] (fun i wr => ∃ k : Nat, k ≤ 4 ∧ i = .int .i64 k ∧ CW w0 wr q p (l ++ ptrsU (zs.take k)) (okPs bad (zs.take k)) ∧ Kp q p wa wr) (fun i _ => 4 - (intOf i).toNat)
  case atStart => exact ⟨0, by omega, rfl, by simpa [ptrsU, okPs] using HA.out, fun _ _ _ h _ _ _ => h⟩
  case round =>
    obtain ⟨k, hk, rfl, hcw, hkp⟩ := hrel
    have HCW := Lib.hid hcw
    have HKP := Lib.hid hkp
    clear hcw hkp
    by_cases hlt : k < 4
    · have hs := HKP.out _ _ _ HSA.out HSP.out.1 HSP.out.2 (by decide)
      have hcell : wr.cell? ⟨w.heap.size, k, none⟩ = some (.pointer (some ⟨b, chO.getD k 0, none⟩)) := by
        rw [cell_of_row wr _ k _ _ _ hs]
        rcases k with _ | _ | _ | _ | k <;> first | rfl | omega
      have HX := Lib.hid (HC.out k hlt)
      have HT := Lib.hid (take_snoc zs k (by have := HZ.out; omega))
      have HG := Lib.hid (show zs.getD k 0 = zs[k]'(by have := HZ.out; omega) by simp [List.getD, show k < zs.length by have := HZ.out; omega])
      have HLE := Lib.hid (show (l ++ ptrsU (zs.take k)).length ≤ 1000 by rw [List.length_append, ptrsU_length, List.length_take]; omega)
      clear hs
      generalize chO.getD k 0 = o at hcell HX
      generalize w.heap.size = s at hcell
      go_wp2_with fail
      refine (pointer_W w0 wr q p _ _ b o _ 2048 HCW.out HX.out hb HLE.out).mono ?_
      rintro e w2 ⟨rfl, h1, h2⟩
      have H1 := Lib.hid h1
      have H2 := Lib.hid h2
      clear h1 h2
      go_wp2_with fail
      go_roundw
      case rel =>
        refine ⟨k + 1, by omega, by go_num, ?_, HKP.out.trans H2.out⟩
        have := H1.out
        rw [HT.out, ptrsU_snoc, okPs_snoc, ← List.append_assoc, ← HG.out]
        exact this
      case measure => simp [intOf] <;> omega
    · have HE := Lib.hid (show zs.take k = zs from List.take_of_length_le (by have := HZ.out; omega))
      go_wp2
      go_end0
      have h1 := HCW.out
      rw [HE.out] at h1
      exact ⟨rfl, h1, HKA.out.trans HKP.out⟩
end Go.Proofs.Ytbhmfbhfofgfaaa
