/- The walk of the document's GetRel of version 2. -/
import Derived.Test.YtmekplamjlnhcaaRecK
import Derived.Deep.MidRow
namespace Go.Proofs.Ytmekplamjlnhcaa
open Go.RowKit
attribute [local go_sem ↓] Go.wp_at_zero Go.wp_at_succ
theorem seven {w : World} {b T : Nat} {c0 c1 c2 c3 c4 c5 c6 : Value} (h : w.heap[b]? = some (.cells #[c0, c1, c2, c3, c4, c5, c6] T)) :
    w.cell? ⟨b, 0, none⟩ = some c0 ∧ w.cell? ⟨b, 1, none⟩ = some c1 ∧ w.cell? ⟨b, 2, none⟩ = some c2 ∧ w.cell? ⟨b, 3, none⟩ = some c3 ∧ w.cell? ⟨b, 4, none⟩ = some c4 ∧ w.cell? ⟨b, 5, none⟩ = some c5 ∧ w.cell? ⟨b, 6, none⟩ = some c6 :=
  ⟨cell_of_row _ _ 0 _ _ _ h, cell_of_row _ _ 1 _ _ _ h, cell_of_row _ _ 2 _ _ _ h, cell_of_row _ _ 3 _ _ _ h, cell_of_row _ _ 4 _ _ _ h, cell_of_row _ _ 5 _ _ _ h, cell_of_row _ _ 6 _ _ _ h⟩
theorem seven_fr {S : List Nat} {w w' : World} {b : Nat} {c0 c1 c2 c3 c4 c5 c6 : Value} (h : w.cell? ⟨b, 0, none⟩ = some c0 ∧ w.cell? ⟨b, 1, none⟩ = some c1 ∧ w.cell? ⟨b, 2, none⟩ = some c2 ∧ w.cell? ⟨b, 3, none⟩ = some c3 ∧ w.cell? ⟨b, 4, none⟩ = some c4 ∧ w.cell? ⟨b, 5, none⟩ = some c5 ∧ w.cell? ⟨b, 6, none⟩ = some c6) (hf : Fr S w w') (hb : b ∉ S) :
    w'.cell? ⟨b, 0, none⟩ = some c0 ∧ w'.cell? ⟨b, 1, none⟩ = some c1 ∧ w'.cell? ⟨b, 2, none⟩ = some c2 ∧ w'.cell? ⟨b, 3, none⟩ = some c3 ∧ w'.cell? ⟨b, 4, none⟩ = some c4 ∧ w'.cell? ⟨b, 5, none⟩ = some c5 ∧ w'.cell? ⟨b, 6, none⟩ = some c6 :=
  ⟨hf.cell h.1 hb, hf.cell h.2.1 hb, hf.cell h.2.2.1 hb, hf.cell h.2.2.2.1 hb, hf.cell h.2.2.2.2.1 hb, hf.cell h.2.2.2.2.2.1 hb, hf.cell h.2.2.2.2.2.2 hb⟩
theorem seven_set {w : World} {b b' : Nat} {c0 c1 c2 c3 c4 c5 c6 : Value} {cs : List Value} (h : w.cell? ⟨b, 0, none⟩ = some c0 ∧ w.cell? ⟨b, 1, none⟩ = some c1 ∧ w.cell? ⟨b, 2, none⟩ = some c2 ∧ w.cell? ⟨b, 3, none⟩ = some c3 ∧ w.cell? ⟨b, 4, none⟩ = some c4 ∧ w.cell? ⟨b, 5, none⟩ = some c5 ∧ w.cell? ⟨b, 6, none⟩ = some c6) (hb : b ≠ b') :
    (w.setCells b' 0 cs).cell? ⟨b, 0, none⟩ = some c0 ∧ (w.setCells b' 0 cs).cell? ⟨b, 1, none⟩ = some c1 ∧ (w.setCells b' 0 cs).cell? ⟨b, 2, none⟩ = some c2 ∧ (w.setCells b' 0 cs).cell? ⟨b, 3, none⟩ = some c3 ∧ (w.setCells b' 0 cs).cell? ⟨b, 4, none⟩ = some c4 ∧ (w.setCells b' 0 cs).cell? ⟨b, 5, none⟩ = some c5 ∧ (w.setCells b' 0 cs).cell? ⟨b, 6, none⟩ = some c6 :=
  seven_fr h (Fr.setCells (S := [b']) (by simp) cs 0 w (Fr.refl _ _)) (by simp [hb])
def Zat (w : World) (g : Nat) : Prop := w.heap[g]? = some (.cells #[.bool false, .int .i64 0, .int .i64 0, .int .i64 0, .int .i64 0, .int .i64 0, .int .i64 0, .int .i64 0, .int .i64 0, .slice none 0 0] 27)
theorem Zat.there {w : World} {g : Nat} (h : Zat w g) : w.there g 0 10 := by
  intro j hj
  unfold Zat at h
  refine ⟨?_, frozen_of_row w g _ _ _ h⟩
  rw [cell_of_row w g _ _ _ _ h]
  simp only [Nat.zero_add]
  rw [Array.getElem?_eq_getElem (by simpa using hj)]
  rfl
theorem Zat.alloc (w : World) : Zat (w.alloc (.cells #[.bool false, .int .i64 0, .int .i64 0, .int .i64 0, .int .i64 0, .int .i64 0, .int .i64 0, .int .i64 0, .int .i64 0, .slice none 0 0] 27)) w.heap.size := heap_alloc_new w _
def adr : Value → Nat
  | .pointer (some a) => a.block
  | _ => 0
def vcs : Value → List Value
  | .agg cs => cs.toList
  | _ => []
def isAt0 : Value → Bool
  | .pointer (some ⟨_, 0, none⟩) => true
  | _ => false
def isRel : Value → Bool
  | .agg ⟨[.bool _, .int .i64 _, .int .i64 _, .int .i64 _, .int .i64 _, .int .i64 _, .int .i64 _, .int .i64 _, .int .i64 _, .slice _ _ _]⟩ => true
  | _ => false
theorem adr_p (g o : Nat) : adr (.pointer (some ⟨g, o, none⟩)) = g := rfl
theorem vcs_a (cs : List Value) : vcs (.agg ⟨cs⟩) = cs := rfl
theorem isAt0_p (g : Nat) : isAt0 (.pointer (some ⟨g, 0, none⟩)) = true := rfl
theorem isRel_a (b : Bool) (z1 z2 z3 z4 z5 z6 z7 z8 : Int) (a : Option Addr) (n c : Nat) : isRel (.agg #[.bool b, .int .i64 z1, .int .i64 z2, .int .i64 z3, .int .i64 z4, .int .i64 z5, .int .i64 z6, .int .i64 z7, .int .i64 z8, .slice a n c]) = true := rfl
theorem at0_eq {v : Value} (h : isAt0 v = true) : v = .pointer (some ⟨adr v, 0, none⟩) := by
  unfold isAt0 at h
  split at h
  · rfl
  · cases h
theorem rel_eq {v : Value} (h : isRel v = true) : v = .agg (vcs v).toArray ∧ (vcs v).toArray.size = 10 ∧ (vcs v).toArray.all (·.oneCell') = true := by
  unfold isRel at h
  split at h
  · exact ⟨rfl, rfl, by simp [vcs, Value.oneCell']⟩
  · cases h
theorem wp_storeR' {d : Option Tmp} {x y : Operand} {ty : TypeId} {ps : String} {af : Array Edge} {a : Act} {w : World} {K : Act → World → Prop} {Q : Exit → Act → World → Prop} (b : Nat) (cs : List Value)
    (hz : w.there b 0 cs.toArray.size) (hi : (Try.prog.info? 27).map (·.size) = some cs.toArray.size) (h1 : cs.toArray.all (·.oneCell') = true) (hx : a.eval x = .pointer (some ⟨b, 0, none⟩)) (hy : a.eval y = .agg cs.toArray) :
    Oper.wp Try.prog { dst := d, op := .store 27 x y, type := ty, pos := ps, after := af, guard := none } a w K Q = K (a.put d undef) (w.setCells b 0 cs) := by
  unfold Oper.wp execOp
  simp only [hx, hy, Instr.storeAt, Instr.sureAddr, Sem.run_bind, Sem.run_pure, Result.andThen_ok, run_storeVar_mid w b 0 27 cs.toArray hz hi h1]
  rfl
/-- a whole relationship goes into a variable, in a region that draws its order -/
theorem wp_storeR {d : Option Tmp} {x y : Operand} {ty : TypeId} {ps : String} {af : Array Edge} {a : Act} {w : World} {K : Act → World → Prop} {Q : Exit → Act → World → Prop}
    (hz : Zat w (adr (a.eval x))) (hx : isAt0 (a.eval x) = true) (hy : isRel (a.eval y) = true) :
    Oper.wp Try.prog { dst := d, op := .store 27 x y, type := ty, pos := ps, after := af, guard := none } a w K Q = K (a.put d undef) (w.setCells (adr (a.eval x)) 0 (vcs (a.eval y))) := by
  obtain ⟨e2, hs, h1⟩ := rel_eq hy
  exact wp_storeR' _ _ (by rw [hs]; exact hz.there) (by rw [hs]; exact infoR) h1 (at0_eq hx) e2
attribute [local go_sem ↓] wp_storeR
attribute [local go_sem] adr_p vcs_a isAt0_p isRel_a Zat.alloc
theorem rB_rDec (l : List UInt8) (h : l.length = 62) : rB (rDec l) = l := by
  unfold rB rDec ptrs
  simp only [List.flatMap_cons, List.flatMap_nil, List.append_nil, ptr_back, Int.toNat_natCast]
  rw [by8_nm l 0 4 (by omega), by8_nm l 4 4 (by omega), by8_nm l 8 2 (by omega), by8_nm l 10 4 (by omega), by8_nm l 14 4 (by omega), by8_nm l 18 4 (by omega), by8_nm l 22 4 (by omega), by8_nm l 26 4 (by omega)]
  rw [List.drop_zero, ← List.append_assoc, ← List.append_assoc, ← List.append_assoc, ← List.append_assoc, take_join, take_join, take_join, take_join, take_join, take_join, take_join, take_join]
  exact List.take_of_length_le (by omega)
theorem relA (wA : World) (cs : List Value) (hl : cs.length = 10) : ((wA.alloc (.cells #[.bool false, .int .i64 0, .int .i64 0, .int .i64 0, .int .i64 0, .int .i64 0, .int .i64 0, .int .i64 0, .int .i64 0, .slice none 0 0] 27)).setCells wA.heap.size 0 cs).heap[wA.heap.size]? = some (.cells cs.toArray 27) ∧ Fr [] wA ((wA.alloc (.cells #[.bool false, .int .i64 0, .int .i64 0, .int .i64 0, .int .i64 0, .int .i64 0, .int .i64 0, .int .i64 0, .int .i64 0, .slice none 0 0] 27)).setCells wA.heap.size 0 cs) :=
  ⟨obj_setCells (heap_alloc_new wA _) cs (by rw [hl]; rfl), Fr.setCells (by simp) cs 0 _ ((Fr.refl _ _).alloc _)⟩
theorem relB {wA : World} {g : Nat} (hz : Zat wA g) (cs : List Value) (hl : cs.length = 10) : (wA.setCells g 0 cs).heap[g]? = some (.cells cs.toArray 27) ∧ Fr [g] wA (wA.setCells g 0 cs) :=
  ⟨obj_setCells hz cs (by rw [hl]; rfl), Fr.setCells (by simp) cs 0 _ (Fr.refl _ _)⟩
theorem rFine_S {l S : List UInt8} (hS : S = (l.drop 30).take 32) : rFine ⟨true, (nm l 0 4 : Int), nm l 4 4, nm l 10 4 - 1, nm l 18 4 - 1, nm l 14 4 - 1, nm l 22 4 - 1, nm l 8 2, nm l 26 4 - 1, S⟩ = rFine (rDec l) ∧ (rDec l).sl = S ∧ (rB ⟨true, (nm l 0 4 : Int), nm l 4 4, nm l 10 4 - 1, nm l 18 4 - 1, nm l 14 4 - 1, nm l 22 4 - 1, nm l 8 2, nm l 26 4 - 1, S⟩ = rB (rDec l)) := by subst hS; exact ⟨rfl, rfl, rfl⟩
theorem refGetRel_size (a : Option Addr) (c : Nat) (l : List UInt8) (w : World) (h : l.length ≠ 62) :
    Calls Try.prog 19 #[.slice a l.length c] w fun e w' => e = .returned (.tuple #[rZero, .int .i64 4]) ∧ Fr [] w w' := by
  have hb : ((l.length : Int) != 62) = true := by rw [bne_iff_ne]; omega
  have H := Lib.hid h; clear h
  go_enter Try.func19, Try.ntmps19
  go_wp2
  exact bodyPost_ret (v := .tuple #[rZero, .int .i64 4]) (by simp [results, Try.results19, go_sem, rZero]) rfl ⟨rfl, ((Fr.refl _ _).alloc _).alloc _⟩
set_option maxRecDepth 100000 in
set_option maxHeartbeats 4000000 in
theorem refGetRel_any (a : Option Addr) (c : Nat) (l : List UInt8) (w : World) (h : l.length = 62) (hc : l.length ≤ c) (hb : Bytes w a l) :
    Calls Try.prog 19 #[.slice a l.length c] w fun e w' => ∃ x, e = .returned x ∧ GotRel w.heap.size l x w' ∧ Fr [] w w' := by
  have hbb : ((l.length : Int) != 62) = false := by rw [bne_eq_false_iff_eq]; omega
  have HL := Lib.hid h
  have hle : l.length ≤ 100 := by omega
  have hc30 : (30 : Int) ≤ (l.length : Int) := by omega
  have hlc : (l.length : Int) ≤ (c : Int) := by omega
  have HB := Lib.hid hb
  obtain ⟨ab, ao, rfl, _⟩ := hb.at (by omega)
  have n1 := nm_le l 26 4 (by omega)
  have n2 : IntKind.i64.wrap ((nm l 26 4 : Int) - 1) = (nm l 26 4 : Int) - 1 := IntWalk.i64_in _ (by omega)
  have hne : ¬ c = 30 := by omega
  clear hb h
  go_enter Try.func19, Try.ntmps19
  go_wp2_with fail
  obtain ⟨wa, hwa⟩ : ∃ wa, wa = (w.alloc (.cells #[.bool false, .int .i64 0, .int .i64 0, .int .i64 0, .int .i64 0, .int .i64 0, .int .i64 0, .int .i64 0, .int .i64 0, .slice none 0 0] 27)).alloc (.cells #[.bool false, .int .i64 0, .int .i64 0, .int .i64 0, .int .i64 0, .int .i64 0, .int .i64 0, .int .i64 0, .int .i64 0, .slice none 0 0] 27) := ⟨_, rfl⟩
  rw [← hwa]
  have hfa : Fr [] w wa := by rw [hwa]; exact ((Fr.refl _ _).alloc _).alloc _
  have hz1 : wa.heap[w.heap.size]? = some (.cells #[.bool false, .int .i64 0, .int .i64 0, .int .i64 0, .int .i64 0, .int .i64 0, .int .i64 0, .int .i64 0, .int .i64 0, .slice none 0 0] 27) := by rw [hwa]; exact heap_alloc2_old w _ _
  have hz2 : wa.heap[w.heap.size + 1]? = some (.cells #[.bool false, .int .i64 0, .int .i64 0, .int .i64 0, .int .i64 0, .int .i64 0, .int .i64 0, .int .i64 0, .int .i64 0, .slice none 0 0] 27) := by rw [hwa]; exact heap_alloc2_new w _ _
  clear hwa
  refine (Link_any _ c l wa (by omega) (by omega) hc (HB.out.keep hfa)).mono ?_
  rintro e w1 ⟨rfl, hf1⟩
  have HZ1 := Lib.hid (hf1.obj hz1 (by simp))
  have HZ2 := Lib.hid (hf1.obj hz2 (by simp))
  have HF1 := Lib.hid (hfa.trans hf1)
  clear hz1 hz2 hfa hf1
  go_wp2_with fail
  obtain ⟨wb, hwb⟩ : ∃ wb, wb = w1.alloc (.cells #[.bool true, .int .i64 (nm l 0 4), .int .i64 (nm l 4 4), .int .i64 (nm l 10 4 - 1), .int .i64 (nm l 18 4 - 1), .int .i64 (nm l 14 4 - 1), .int .i64 (nm l 22 4 - 1)] 24) := ⟨_, rfl⟩
  rw [← hwb]
  have hfb : Fr [] w1 wb := by rw [hwb]; exact (Fr.refl _ _).alloc _
  have hob : wb.heap[w1.heap.size]? = some (.cells #[.bool true, .int .i64 (nm l 0 4), .int .i64 (nm l 4 4), .int .i64 (nm l 10 4 - 1), .int .i64 (nm l 18 4 - 1), .int .i64 (nm l 14 4 - 1), .int .i64 (nm l 22 4 - 1)] 24) := by rw [hwb]; exact heap_alloc_new w1 _
  have hsb : w1.heap.size < wb.heap.size := (Array.getElem?_eq_some_iff.1 hob).1
  clear hwb
  have hobd : wb.drew.heap[w1.heap.size]? = some (.cells #[.bool true, .int .i64 (nm l 0 4), .int .i64 (nm l 4 4), .int .i64 (nm l 10 4 - 1), .int .i64 (nm l 18 4 - 1), .int .i64 (nm l 14 4 - 1), .int .i64 (nm l 22 4 - 1)] 24) := hob
  have hobz : (wb.alloc (.cells #[.bool false, .int .i64 0, .int .i64 0, .int .i64 0, .int .i64 0, .int .i64 0, .int .i64 0, .int .i64 0, .int .i64 0, .slice none 0 0] 27)).drew.heap[w1.heap.size]? = some (.cells #[.bool true, .int .i64 (nm l 0 4), .int .i64 (nm l 4 4), .int .i64 (nm l 10 4 - 1), .int .i64 (nm l 18 4 - 1), .int .i64 (nm l 14 4 - 1), .int .i64 (nm l 22 4 - 1)] 24) := ((Fr.refl [] wb).alloc _).obj hob (by simp)
  have hzz : (wb.alloc (.cells #[.bool false, .int .i64 0, .int .i64 0, .int .i64 0, .int .i64 0, .int .i64 0, .int .i64 0, .int .i64 0, .int .i64 0, .slice none 0 0] 27)).drew.heap[wb.heap.size]? = some (.cells #[.bool false, .int .i64 0, .int .i64 0, .int .i64 0, .int .i64 0, .int .i64 0, .int .i64 0, .int .i64 0, .int .i64 0, .slice none 0 0] 27) := heap_alloc_new wb _
  have HOZ := Lib.hid hzz
  clear hzz
  have HFB := Lib.hid (HF1.out.trans hfb)
  have HFZ := Lib.hid (show Fr [] w (wb.alloc (.cells #[.bool false, .int .i64 0, .int .i64 0, .int .i64 0, .int .i64 0, .int .i64 0, .int .i64 0, .int .i64 0, .int .i64 0, .slice none 0 0] 27)).drew from (HFB.out.alloc _).drew)
  have HOB := Lib.hid hob
  have HZ1 := Lib.hid (hfb.obj HZ1.out (by simp))
  have HZ2 := Lib.hid (hfb.obj HZ2.out (by simp))
  clear hfb
  have HAT := Lib.hid (fun w hb => at15_any (some ⟨ab, ao, none⟩) c l 4 26 w (by omega) hc hb (by unfold Wd; omega) (by omega) (by have := HL.out; omega))
  obtain ⟨S, hS⟩ : ∃ S, S = (l.drop 30).take 32 := ⟨_, rfl⟩
  have hcp : ∀ w, Bytes w (some ⟨ab, ao, none⟩) l → Calls Try.prog 47 #[.slice (some ⟨ab, ao + 30, none⟩) (l.length - 30) (c - 30)] w fun e w' => ∃ g cap, e = .returned (.slice (some ⟨g, 0, none⟩) S.length cap) ∧ w.heap.size ≤ g ∧ w'.ownsRow w.heap.size 5 1 (.slice (some ⟨g, 0, none⟩) S.length cap) S.length (S.map B8) ∧ Fr [] w w' := by
    intro w hw
    have hl0 := HL.out
    have hSl : S.length = l.length - 30 := by rw [hS]; simp only [List.length_take, List.length_drop]; omega
    have h := copy_any (some ⟨ab, ao + 30, none⟩) (c - 30) S w (by omega) (by rw [hS, show 32 = l.length - 30 by omega]; exact hw.sub 30 (l.length - 30) (by omega))
    rw [hSl] at h
    refine h.mono ?_
    rintro e w' ⟨v, rfl, g, cap, rfl, h1, _, h3, h4⟩
    exact ⟨g, cap, rfl, h1, h3, h4⟩
  have HSS := Lib.hid hS
  have HSL := Lib.hid (show S.length = 32 by rw [hS]; have := HL.out; simp only [List.length_take, List.length_drop]; omega)
  clear hS
  have HCP := Lib.hid hcp
  clear hcp
  have HLS := Lib.hid (show (l.drop 30).length = l.length - 30 by simp)
  have hn30 : ((l.length - 30 : Nat) : Int) = (l.length : Int) - 30 := by omega
  have HN30 := Lib.hid hn30
  clear hn30
  go_region_held3? (fun w' => w'.cell? ⟨w1.heap.size, 0, none⟩ = some (.bool true) ∧ w'.cell? ⟨w1.heap.size, 1, none⟩ = some (.int .i64 (nm l 0 4)) ∧ w'.cell? ⟨w1.heap.size, 2, none⟩ = some (.int .i64 (nm l 4 4)) ∧ w'.cell? ⟨w1.heap.size, 3, none⟩ = some (.int .i64 (nm l 10 4 - 1)) ∧ w'.cell? ⟨w1.heap.size, 4, none⟩ = some (.int .i64 (nm l 18 4 - 1)) ∧ w'.cell? ⟨w1.heap.size, 5, none⟩ = some (.int .i64 (nm l 14 4 - 1)) ∧ w'.cell? ⟨w1.heap.size, 6, none⟩ = some (.int .i64 (nm l 22 4 - 1)))
    (first
      | with_reducible refine seven_set ?_ ?_ <;> first | assumption | omega | (have := hA.size; simp at this; omega)
      | with_reducible assumption
      | with_reducible exact seven hobd
      | with_reducible exact seven hobz
      | (with_reducible refine seven_fr ?_ ((Fr.refl [] _).alloc _) (by simp) ; assumption)
      | (with_reducible refine seven_fr ?_ hA (by simp) ; assumption))
    (first
      | (go_at_call 46; refine (HAT.out _ (by first | exact HB.out.keep HFB.out.drew | exact HB.out.keep HFZ.out)).mono ?_; rintro e wA' ⟨rfl, rfl⟩)
      | (go_at_call 47; (with_reducible refine (HCP.out _ (HB.out.keep HFB.out.drew)).mono ?_); rintro e wA ⟨gA, cA, rfl, hgA, hoA, hA⟩)
      | (go_at_call 47; (with_reducible refine (HCP.out _ (HB.out.keep HFZ.out)).mono ?_); rintro e wA ⟨gA, cA, rfl, hgA, hoA, hA⟩; have hzA : Zat wA wb.heap.size := hA.obj HOZ.out (by simp)))
  · have hRel := relA wA [.bool true, .int .i64 (nm l 0 4), .int .i64 (nm l 4 4), .int .i64 (nm l 10 4 - 1), .int .i64 (nm l 18 4 - 1), .int .i64 (nm l 14 4 - 1), .int .i64 (nm l 22 4 - 1), .int .i64 (nm l 8 2), .int .i64 (nm l 26 4 - 1), .slice (some ⟨gA, 0, none⟩) S.length cA] rfl
    obtain ⟨hX, fX⟩ := hRel
    generalize hwX : (wA.alloc (.cells #[.bool false, .int .i64 0, .int .i64 0, .int .i64 0, .int .i64 0, .int .i64 0, .int .i64 0, .int .i64 0, .int .i64 0, .slice none 0 0] 27)).setCells wA.heap.size 0 [.bool true, .int .i64 (nm l 0 4), .int .i64 (nm l 4 4), .int .i64 (nm l 10 4 - 1), .int .i64 (nm l 18 4 - 1), .int .i64 (nm l 14 4 - 1), .int .i64 (nm l 22 4 - 1), .int .i64 (nm l 8 2), .int .i64 (nm l 26 4 - 1), .slice (some ⟨gA, 0, none⟩) S.length cA] = wX at hX fX ⊢
    have HFX := Lib.hid (HFB.out.drew.trans (hA.trans fX))
    have fbX : Fr [] wb wX := (Fr.refl [] wb).drew.trans (hA.trans fX)
    have HZ1X := Lib.hid (fbX.obj HZ1.out (by simp))
    have HZ2X := Lib.hid (fbX.obj HZ2.out (by simp))
    have HOX := Lib.hid (own_base (own_fr hoA fX (by simp)) (show w.heap.size ≤ _ from HFB.out.size))
    have HXX := Lib.hid hX
    have gA_ne : gA ≠ w.heap.size := by have h1 := (Array.getElem?_eq_some_iff.1 HZ2.out).1; have h2 := hgA; simp at h2; omega
    have x0 := cell_of_row wX _ 0 _ _ _ hX
    have x1 := cell_of_row wX _ 1 _ _ _ hX
    have x2 := cell_of_row wX _ 2 _ _ _ hX
    have x3 := cell_of_row wX _ 3 _ _ _ hX
    have x4 := cell_of_row wX _ 4 _ _ _ hX
    have x5 := cell_of_row wX _ 5 _ _ _ hX
    have x6 := cell_of_row wX _ 6 _ _ _ hX
    have x7 := cell_of_row wX _ 7 _ _ _ hX
    have x8 := cell_of_row wX _ 8 _ _ _ hX
    have x9 := cell_of_row wX _ 9 _ _ _ hX
    clear hX fX hwX hoA hA fbX hobd hobz hgA
    go_wp2_with fail
    obtain ⟨e1, e2, e3⟩ := rFine_S HSS.out
    cases hfin : rFine (rDec l)
    · have HFIN := Lib.hid hfin
      rw [hfin] at e1
      refine (refPutRel_no true (nm l 0 4) (nm l 4 4) (nm l 10 4 - 1) (nm l 18 4 - 1) (nm l 14 4 - 1) (nm l 22 4 - 1) (nm l 8 2) (nm l 26 4 - 1) (some ⟨gA, 0, none⟩) cA S wX e1).mono ?_
      clear hfin e1 e2 e3
      rintro e w5 ⟨v, rfl, hv⟩
      have HV := Lib.hid hv.fr
      clear hv x0 x1 x2 x3 x4 x5 x6 x7 x8 x9
      have o1 := HV.out.obj HZ1X.out (by simp)
      have o2 := HV.out.obj HZ2X.out (by simp)
      have hz1 : Zat w5 w.heap.size := o1
      have O1 := Lib.hid o1
      have y0 := cell_of_row w5 _ 0 _ _ _ o2
      have y1 := cell_of_row w5 _ 1 _ _ _ o2
      have y2 := cell_of_row w5 _ 2 _ _ _ o2
      have y3 := cell_of_row w5 _ 3 _ _ _ o2
      have y4 := cell_of_row w5 _ 4 _ _ _ o2
      have y5 := cell_of_row w5 _ 5 _ _ _ o2
      have y6 := cell_of_row w5 _ 6 _ _ _ o2
      have y7 := cell_of_row w5 _ 7 _ _ _ o2
      have y8 := cell_of_row w5 _ 8 _ _ _ o2
      have y9 := cell_of_row w5 _ 9 _ _ _ o2
      clear o1 o2
      go_wp2
      refine bodyPost_ret (v := .tuple #[rZero, .int .i64 41]) ?_ rfl ⟨_, rfl, GotRel.no HFIN.out rfl, Fr.setCells (by simp) [.bool false, .int .i64 0, .int .i64 0, .int .i64 0, .int .i64 0, .int .i64 0, .int .i64 0, .int .i64 0, .int .i64 0, .slice none 0 0] 0 _ (HFX.out.trans HV.out)⟩
      exact results_row Try.results19 _ _ w.heap.size 27 _ _ _ rfl rfl (obj_setCells O1.out [.bool false, .int .i64 0, .int .i64 0, .int .i64 0, .int .i64 0, .int .i64 0, .int .i64 0, .int .i64 0, .int .i64 0, .slice none 0 0] rfl) Try.underlying27 rfl infoR
    · have HFIN := Lib.hid hfin
      rw [hfin] at e1
      rw [rB_rDec l HL.out] at e3
      have hy := refPutRel_yes true (nm l 0 4) (nm l 4 4) (nm l 10 4 - 1) (nm l 18 4 - 1) (nm l 14 4 - 1) (nm l 22 4 - 1) (nm l 8 2) (nm l 26 4 - 1) (some ⟨gA, 0, none⟩) cA S wX e1 (own_bytes HOX.out)
      rw [e3] at hy
      have HY := Lib.hid hy
      have E2 := Lib.hid e2
      clear hfin e1 e2 e3 hy
      refine HY.out.mono ?_
      rintro e w5 ⟨v, rfl, hv⟩
      obtain ⟨g, cap, rfl, hg, hlt, hbv, hfv⟩ := hv.bytes
      have HV := Lib.hid hfv
      have q1 := conv_any (some ⟨g, 0, none⟩) cap l w5 (fun h => by cases h) hbv
      have q2 := conv_any (some ⟨ab, ao, none⟩) c l w5 (fun h => by cases h) (HB.out.keep (HFX.out.trans HV.out))
      clear hv hbv hfv hg hlt x0 x1 x2 x3 x4 x5 x6 x7 x8 x9
      have o1 := HV.out.obj HZ1X.out (by simp)
      have o2 := HV.out.obj HXX.out (by simp)
      have hz1 : Zat w5 w.heap.size := o1
      have O1 := Lib.hid o1
      have y0 := cell_of_row w5 _ 0 _ _ _ o2
      have y1 := cell_of_row w5 _ 1 _ _ _ o2
      have y2 := cell_of_row w5 _ 2 _ _ _ o2
      have y3 := cell_of_row w5 _ 3 _ _ _ o2
      have y4 := cell_of_row w5 _ 4 _ _ _ o2
      have y5 := cell_of_row w5 _ 5 _ _ _ o2
      have y6 := cell_of_row w5 _ 6 _ _ _ o2
      have y7 := cell_of_row w5 _ 7 _ _ _ o2
      have y8 := cell_of_row w5 _ 8 _ _ _ o2
      have y9 := cell_of_row w5 _ 9 _ _ _ o2
      clear o1 o2
      go_wp2
      refine bodyPost_ret (v := .tuple #[(rDec l).val (.slice (some ⟨gA, 0, none⟩) S.length cA), .int .i64 0]) ?_ rfl ⟨_, rfl, GotRel.yes HFIN.out _ rfl (by rw [E2.out]; exact own_setCells (b := w.heap.size) (by intro g hg; have h1 := (own_lt HOX.out hg); have := gA_ne; simp [Value.ownBlock] at hg; omega) [.bool true, .int .i64 (nm l 0 4), .int .i64 (nm l 4 4), .int .i64 (nm l 10 4 - 1), .int .i64 (nm l 18 4 - 1), .int .i64 (nm l 14 4 - 1), .int .i64 (nm l 22 4 - 1), .int .i64 (nm l 8 2), .int .i64 (nm l 26 4 - 1), .slice (some ⟨gA, 0, none⟩) S.length cA] 0 (own_fr HOX.out HV.out (by simp))), Fr.setCells (by simp) [.bool true, .int .i64 (nm l 0 4), .int .i64 (nm l 4 4), .int .i64 (nm l 10 4 - 1), .int .i64 (nm l 18 4 - 1), .int .i64 (nm l 14 4 - 1), .int .i64 (nm l 22 4 - 1), .int .i64 (nm l 8 2), .int .i64 (nm l 26 4 - 1), .slice (some ⟨gA, 0, none⟩) S.length cA] 0 _ (HFX.out.trans HV.out)⟩
      exact results_row Try.results19 _ _ w.heap.size 27 _ _ _ rfl rfl (obj_setCells O1.out [.bool true, .int .i64 (nm l 0 4), .int .i64 (nm l 4 4), .int .i64 (nm l 10 4 - 1), .int .i64 (nm l 18 4 - 1), .int .i64 (nm l 14 4 - 1), .int .i64 (nm l 22 4 - 1), .int .i64 (nm l 8 2), .int .i64 (nm l 26 4 - 1), .slice (some ⟨gA, 0, none⟩) S.length cA] rfl) Try.underlying27 rfl infoR
  · have hRel := relB hzA [.bool true, .int .i64 (nm l 0 4), .int .i64 (nm l 4 4), .int .i64 (nm l 10 4 - 1), .int .i64 (nm l 18 4 - 1), .int .i64 (nm l 14 4 - 1), .int .i64 (nm l 22 4 - 1), .int .i64 (nm l 8 2), .int .i64 (nm l 26 4 - 1), .slice (some ⟨gA, 0, none⟩) S.length cA] rfl
    obtain ⟨hX, fX⟩ := hRel
    generalize hwX : wA.setCells wb.heap.size 0 [.bool true, .int .i64 (nm l 0 4), .int .i64 (nm l 4 4), .int .i64 (nm l 10 4 - 1), .int .i64 (nm l 18 4 - 1), .int .i64 (nm l 14 4 - 1), .int .i64 (nm l 22 4 - 1), .int .i64 (nm l 8 2), .int .i64 (nm l 26 4 - 1), .slice (some ⟨gA, 0, none⟩) S.length cA] = wX at hX fX ⊢
    have hsw : w.heap.size + 1 < wb.heap.size := by have := (Array.getElem?_eq_some_iff.1 HZ2.out).1; exact this
    have fbX : Fr [wb.heap.size] wb wX := (((Fr.refl [wb.heap.size] wb).alloc (.cells #[.bool false, .int .i64 0, .int .i64 0, .int .i64 0, .int .i64 0, .int .i64 0, .int .i64 0, .int .i64 0, .int .i64 0, .slice none 0 0] 27)).drew.trans (hA.mono (by simp))).trans fX
    have HFX := Lib.hid (HFB.out.next fbX (by intro i hi hlt; simp at hi; omega))
    have HZ1X := Lib.hid (fbX.obj HZ1.out (by simp; omega))
    have HZ2X := Lib.hid (fbX.obj HZ2.out (by simp; omega))
    have hgA2 : wb.heap.size < gA := by have := hgA; simp at this; omega
    have HOX := Lib.hid (own_base (own_fr hoA fX (by intro g hg; simp [Value.ownBlock] at hg; subst hg; simp; omega)) (show w.heap.size ≤ _ by simp; omega))
    have HXX := Lib.hid hX
    have gA_ne : gA ≠ w.heap.size := by have h1 := (Array.getElem?_eq_some_iff.1 HZ2.out).1; have h2 := hgA; simp at h2; omega
    have x0 := cell_of_row wX _ 0 _ _ _ hX
    have x1 := cell_of_row wX _ 1 _ _ _ hX
    have x2 := cell_of_row wX _ 2 _ _ _ hX
    have x3 := cell_of_row wX _ 3 _ _ _ hX
    have x4 := cell_of_row wX _ 4 _ _ _ hX
    have x5 := cell_of_row wX _ 5 _ _ _ hX
    have x6 := cell_of_row wX _ 6 _ _ _ hX
    have x7 := cell_of_row wX _ 7 _ _ _ hX
    have x8 := cell_of_row wX _ 8 _ _ _ hX
    have x9 := cell_of_row wX _ 9 _ _ _ hX
    clear hX fX hwX hoA hA fbX hobd hobz hgA hgA2 hsw hzA
    go_wp2_with fail
    obtain ⟨e1, e2, e3⟩ := rFine_S HSS.out
    cases hfin : rFine (rDec l)
    · have HFIN := Lib.hid hfin
      rw [hfin] at e1
      refine (refPutRel_no true (nm l 0 4) (nm l 4 4) (nm l 10 4 - 1) (nm l 18 4 - 1) (nm l 14 4 - 1) (nm l 22 4 - 1) (nm l 8 2) (nm l 26 4 - 1) (some ⟨gA, 0, none⟩) cA S wX e1).mono ?_
      clear hfin e1 e2 e3
      rintro e w5 ⟨v, rfl, hv⟩
      have HV := Lib.hid hv.fr
      clear hv x0 x1 x2 x3 x4 x5 x6 x7 x8 x9
      have o1 := HV.out.obj HZ1X.out (by simp)
      have o2 := HV.out.obj HZ2X.out (by simp)
      have hz1 : Zat w5 w.heap.size := o1
      have O1 := Lib.hid o1
      have y0 := cell_of_row w5 _ 0 _ _ _ o2
      have y1 := cell_of_row w5 _ 1 _ _ _ o2
      have y2 := cell_of_row w5 _ 2 _ _ _ o2
      have y3 := cell_of_row w5 _ 3 _ _ _ o2
      have y4 := cell_of_row w5 _ 4 _ _ _ o2
      have y5 := cell_of_row w5 _ 5 _ _ _ o2
      have y6 := cell_of_row w5 _ 6 _ _ _ o2
      have y7 := cell_of_row w5 _ 7 _ _ _ o2
      have y8 := cell_of_row w5 _ 8 _ _ _ o2
      have y9 := cell_of_row w5 _ 9 _ _ _ o2
      clear o1 o2
      go_wp2
      refine bodyPost_ret (v := .tuple #[rZero, .int .i64 41]) ?_ rfl ⟨_, rfl, GotRel.no HFIN.out rfl, Fr.setCells (by simp) [.bool false, .int .i64 0, .int .i64 0, .int .i64 0, .int .i64 0, .int .i64 0, .int .i64 0, .int .i64 0, .int .i64 0, .slice none 0 0] 0 _ (HFX.out.trans HV.out)⟩
      exact results_row Try.results19 _ _ w.heap.size 27 _ _ _ rfl rfl (obj_setCells O1.out [.bool false, .int .i64 0, .int .i64 0, .int .i64 0, .int .i64 0, .int .i64 0, .int .i64 0, .int .i64 0, .int .i64 0, .slice none 0 0] rfl) Try.underlying27 rfl infoR
    · have HFIN := Lib.hid hfin
      rw [hfin] at e1
      rw [rB_rDec l HL.out] at e3
      have hy := refPutRel_yes true (nm l 0 4) (nm l 4 4) (nm l 10 4 - 1) (nm l 18 4 - 1) (nm l 14 4 - 1) (nm l 22 4 - 1) (nm l 8 2) (nm l 26 4 - 1) (some ⟨gA, 0, none⟩) cA S wX e1 (own_bytes HOX.out)
      rw [e3] at hy
      have HY := Lib.hid hy
      have E2 := Lib.hid e2
      clear hfin e1 e2 e3 hy
      refine HY.out.mono ?_
      rintro e w5 ⟨v, rfl, hv⟩
      obtain ⟨g, cap, rfl, hg, hlt, hbv, hfv⟩ := hv.bytes
      have HV := Lib.hid hfv
      have q1 := conv_any (some ⟨g, 0, none⟩) cap l w5 (fun h => by cases h) hbv
      have q2 := conv_any (some ⟨ab, ao, none⟩) c l w5 (fun h => by cases h) (HB.out.keep (HFX.out.trans HV.out))
      clear hv hbv hfv hg hlt x0 x1 x2 x3 x4 x5 x6 x7 x8 x9
      have o1 := HV.out.obj HZ1X.out (by simp)
      have o2 := HV.out.obj HXX.out (by simp)
      have hz1 : Zat w5 w.heap.size := o1
      have O1 := Lib.hid o1
      have y0 := cell_of_row w5 _ 0 _ _ _ o2
      have y1 := cell_of_row w5 _ 1 _ _ _ o2
      have y2 := cell_of_row w5 _ 2 _ _ _ o2
      have y3 := cell_of_row w5 _ 3 _ _ _ o2
      have y4 := cell_of_row w5 _ 4 _ _ _ o2
      have y5 := cell_of_row w5 _ 5 _ _ _ o2
      have y6 := cell_of_row w5 _ 6 _ _ _ o2
      have y7 := cell_of_row w5 _ 7 _ _ _ o2
      have y8 := cell_of_row w5 _ 8 _ _ _ o2
      have y9 := cell_of_row w5 _ 9 _ _ _ o2
      clear o1 o2
      go_wp2
      refine bodyPost_ret (v := .tuple #[(rDec l).val (.slice (some ⟨gA, 0, none⟩) S.length cA), .int .i64 0]) ?_ rfl ⟨_, rfl, GotRel.yes HFIN.out _ rfl (by rw [E2.out]; exact own_setCells (b := w.heap.size) (by intro g hg; have h1 := (own_lt HOX.out hg); have := gA_ne; simp [Value.ownBlock] at hg; omega) [.bool true, .int .i64 (nm l 0 4), .int .i64 (nm l 4 4), .int .i64 (nm l 10 4 - 1), .int .i64 (nm l 18 4 - 1), .int .i64 (nm l 14 4 - 1), .int .i64 (nm l 22 4 - 1), .int .i64 (nm l 8 2), .int .i64 (nm l 26 4 - 1), .slice (some ⟨gA, 0, none⟩) S.length cA] 0 (own_fr HOX.out HV.out (by simp))), Fr.setCells (by simp) [.bool true, .int .i64 (nm l 0 4), .int .i64 (nm l 4 4), .int .i64 (nm l 10 4 - 1), .int .i64 (nm l 18 4 - 1), .int .i64 (nm l 14 4 - 1), .int .i64 (nm l 22 4 - 1), .int .i64 (nm l 8 2), .int .i64 (nm l 26 4 - 1), .slice (some ⟨gA, 0, none⟩) S.length cA] 0 _ (HFX.out.trans HV.out)⟩
      exact results_row Try.results19 _ _ w.heap.size 27 _ _ _ rfl rfl (obj_setCells O1.out [.bool true, .int .i64 (nm l 0 4), .int .i64 (nm l 4 4), .int .i64 (nm l 10 4 - 1), .int .i64 (nm l 18 4 - 1), .int .i64 (nm l 14 4 - 1), .int .i64 (nm l 22 4 - 1), .int .i64 (nm l 8 2), .int .i64 (nm l 26 4 - 1), .slice (some ⟨gA, 0, none⟩) S.length cA] rfl) Try.underlying27 rfl infoR
  · have hRel := relB hzA [.bool true, .int .i64 (nm l 0 4), .int .i64 (nm l 4 4), .int .i64 (nm l 10 4 - 1), .int .i64 (nm l 18 4 - 1), .int .i64 (nm l 14 4 - 1), .int .i64 (nm l 22 4 - 1), .int .i64 (nm l 8 2), .int .i64 (nm l 26 4 - 1), .slice (some ⟨gA, 0, none⟩) S.length cA] rfl
    obtain ⟨hX, fX⟩ := hRel
    generalize hwX : wA.setCells wb.heap.size 0 [.bool true, .int .i64 (nm l 0 4), .int .i64 (nm l 4 4), .int .i64 (nm l 10 4 - 1), .int .i64 (nm l 18 4 - 1), .int .i64 (nm l 14 4 - 1), .int .i64 (nm l 22 4 - 1), .int .i64 (nm l 8 2), .int .i64 (nm l 26 4 - 1), .slice (some ⟨gA, 0, none⟩) S.length cA] = wX at hX fX ⊢
    have hsw : w.heap.size + 1 < wb.heap.size := by have := (Array.getElem?_eq_some_iff.1 HZ2.out).1; exact this
    have fbX : Fr [wb.heap.size] wb wX := (((Fr.refl [wb.heap.size] wb).alloc (.cells #[.bool false, .int .i64 0, .int .i64 0, .int .i64 0, .int .i64 0, .int .i64 0, .int .i64 0, .int .i64 0, .int .i64 0, .slice none 0 0] 27)).drew.trans (hA.mono (by simp))).trans fX
    have HFX := Lib.hid (HFB.out.next fbX (by intro i hi hlt; simp at hi; omega))
    have HZ1X := Lib.hid (fbX.obj HZ1.out (by simp; omega))
    have HZ2X := Lib.hid (fbX.obj HZ2.out (by simp; omega))
    have hgA2 : wb.heap.size < gA := by have := hgA; simp at this; omega
    have HOX := Lib.hid (own_base (own_fr hoA fX (by intro g hg; simp [Value.ownBlock] at hg; subst hg; simp; omega)) (show w.heap.size ≤ _ by simp; omega))
    have HXX := Lib.hid hX
    have gA_ne : gA ≠ w.heap.size := by have h1 := (Array.getElem?_eq_some_iff.1 HZ2.out).1; have h2 := hgA; simp at h2; omega
    have x0 := cell_of_row wX _ 0 _ _ _ hX
    have x1 := cell_of_row wX _ 1 _ _ _ hX
    have x2 := cell_of_row wX _ 2 _ _ _ hX
    have x3 := cell_of_row wX _ 3 _ _ _ hX
    have x4 := cell_of_row wX _ 4 _ _ _ hX
    have x5 := cell_of_row wX _ 5 _ _ _ hX
    have x6 := cell_of_row wX _ 6 _ _ _ hX
    have x7 := cell_of_row wX _ 7 _ _ _ hX
    have x8 := cell_of_row wX _ 8 _ _ _ hX
    have x9 := cell_of_row wX _ 9 _ _ _ hX
    clear hX fX hwX hoA hA fbX hobd hobz hgA hgA2 hsw hzA
    go_wp2_with fail
    obtain ⟨e1, e2, e3⟩ := rFine_S HSS.out
    cases hfin : rFine (rDec l)
    · have HFIN := Lib.hid hfin
      rw [hfin] at e1
      refine (refPutRel_no true (nm l 0 4) (nm l 4 4) (nm l 10 4 - 1) (nm l 18 4 - 1) (nm l 14 4 - 1) (nm l 22 4 - 1) (nm l 8 2) (nm l 26 4 - 1) (some ⟨gA, 0, none⟩) cA S wX e1).mono ?_
      clear hfin e1 e2 e3
      rintro e w5 ⟨v, rfl, hv⟩
      have HV := Lib.hid hv.fr
      clear hv x0 x1 x2 x3 x4 x5 x6 x7 x8 x9
      have o1 := HV.out.obj HZ1X.out (by simp)
      have o2 := HV.out.obj HZ2X.out (by simp)
      have hz1 : Zat w5 w.heap.size := o1
      have O1 := Lib.hid o1
      have y0 := cell_of_row w5 _ 0 _ _ _ o2
      have y1 := cell_of_row w5 _ 1 _ _ _ o2
      have y2 := cell_of_row w5 _ 2 _ _ _ o2
      have y3 := cell_of_row w5 _ 3 _ _ _ o2
      have y4 := cell_of_row w5 _ 4 _ _ _ o2
      have y5 := cell_of_row w5 _ 5 _ _ _ o2
      have y6 := cell_of_row w5 _ 6 _ _ _ o2
      have y7 := cell_of_row w5 _ 7 _ _ _ o2
      have y8 := cell_of_row w5 _ 8 _ _ _ o2
      have y9 := cell_of_row w5 _ 9 _ _ _ o2
      clear o1 o2
      go_wp2
      refine bodyPost_ret (v := .tuple #[rZero, .int .i64 41]) ?_ rfl ⟨_, rfl, GotRel.no HFIN.out rfl, Fr.setCells (by simp) [.bool false, .int .i64 0, .int .i64 0, .int .i64 0, .int .i64 0, .int .i64 0, .int .i64 0, .int .i64 0, .int .i64 0, .slice none 0 0] 0 _ (HFX.out.trans HV.out)⟩
      exact results_row Try.results19 _ _ w.heap.size 27 _ _ _ rfl rfl (obj_setCells O1.out [.bool false, .int .i64 0, .int .i64 0, .int .i64 0, .int .i64 0, .int .i64 0, .int .i64 0, .int .i64 0, .int .i64 0, .slice none 0 0] rfl) Try.underlying27 rfl infoR
    · have HFIN := Lib.hid hfin
      rw [hfin] at e1
      rw [rB_rDec l HL.out] at e3
      have hy := refPutRel_yes true (nm l 0 4) (nm l 4 4) (nm l 10 4 - 1) (nm l 18 4 - 1) (nm l 14 4 - 1) (nm l 22 4 - 1) (nm l 8 2) (nm l 26 4 - 1) (some ⟨gA, 0, none⟩) cA S wX e1 (own_bytes HOX.out)
      rw [e3] at hy
      have HY := Lib.hid hy
      have E2 := Lib.hid e2
      clear hfin e1 e2 e3 hy
      refine HY.out.mono ?_
      rintro e w5 ⟨v, rfl, hv⟩
      obtain ⟨g, cap, rfl, hg, hlt, hbv, hfv⟩ := hv.bytes
      have HV := Lib.hid hfv
      have q1 := conv_any (some ⟨g, 0, none⟩) cap l w5 (fun h => by cases h) hbv
      have q2 := conv_any (some ⟨ab, ao, none⟩) c l w5 (fun h => by cases h) (HB.out.keep (HFX.out.trans HV.out))
      clear hv hbv hfv hg hlt x0 x1 x2 x3 x4 x5 x6 x7 x8 x9
      have o1 := HV.out.obj HZ1X.out (by simp)
      have o2 := HV.out.obj HXX.out (by simp)
      have hz1 : Zat w5 w.heap.size := o1
      have O1 := Lib.hid o1
      have y0 := cell_of_row w5 _ 0 _ _ _ o2
      have y1 := cell_of_row w5 _ 1 _ _ _ o2
      have y2 := cell_of_row w5 _ 2 _ _ _ o2
      have y3 := cell_of_row w5 _ 3 _ _ _ o2
      have y4 := cell_of_row w5 _ 4 _ _ _ o2
      have y5 := cell_of_row w5 _ 5 _ _ _ o2
      have y6 := cell_of_row w5 _ 6 _ _ _ o2
      have y7 := cell_of_row w5 _ 7 _ _ _ o2
      have y8 := cell_of_row w5 _ 8 _ _ _ o2
      have y9 := cell_of_row w5 _ 9 _ _ _ o2
      clear o1 o2
      go_wp2
      refine bodyPost_ret (v := .tuple #[(rDec l).val (.slice (some ⟨gA, 0, none⟩) S.length cA), .int .i64 0]) ?_ rfl ⟨_, rfl, GotRel.yes HFIN.out _ rfl (by rw [E2.out]; exact own_setCells (b := w.heap.size) (by intro g hg; have h1 := (own_lt HOX.out hg); have := gA_ne; simp [Value.ownBlock] at hg; omega) [.bool true, .int .i64 (nm l 0 4), .int .i64 (nm l 4 4), .int .i64 (nm l 10 4 - 1), .int .i64 (nm l 18 4 - 1), .int .i64 (nm l 14 4 - 1), .int .i64 (nm l 22 4 - 1), .int .i64 (nm l 8 2), .int .i64 (nm l 26 4 - 1), .slice (some ⟨gA, 0, none⟩) S.length cA] 0 (own_fr HOX.out HV.out (by simp))), Fr.setCells (by simp) [.bool true, .int .i64 (nm l 0 4), .int .i64 (nm l 4 4), .int .i64 (nm l 10 4 - 1), .int .i64 (nm l 18 4 - 1), .int .i64 (nm l 14 4 - 1), .int .i64 (nm l 22 4 - 1), .int .i64 (nm l 8 2), .int .i64 (nm l 26 4 - 1), .slice (some ⟨gA, 0, none⟩) S.length cA] 0 _ (HFX.out.trans HV.out)⟩
      exact results_row Try.results19 _ _ w.heap.size 27 _ _ _ rfl rfl (obj_setCells O1.out [.bool true, .int .i64 (nm l 0 4), .int .i64 (nm l 4 4), .int .i64 (nm l 10 4 - 1), .int .i64 (nm l 18 4 - 1), .int .i64 (nm l 14 4 - 1), .int .i64 (nm l 22 4 - 1), .int .i64 (nm l 8 2), .int .i64 (nm l 26 4 - 1), .slice (some ⟨gA, 0, none⟩) S.length cA] rfl) Try.underlying27 rfl infoR
end Go.Proofs.Ytmekplamjlnhcaa
