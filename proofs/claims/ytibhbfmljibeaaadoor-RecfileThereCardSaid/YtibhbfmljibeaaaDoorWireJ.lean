/- The walks of wire's Reader and of the document's. -/
import Derived.Test.YtibhbfmljibeaaaDoorWireH
namespace Go.Proofs.YtibhbfmljibeaaaDoor
open Go.RowKit
attribute [local go_sem] mulU256 wrapU_nat wrapU_I8 wrapU addU mulU remU divU byteU shrU I8_ne I8_eq U_eq U_ne
theorem Clone_some (ad : Addr) (cap : Nat) (l : List UInt8) (w : World) (hl : l.length ≤ 140737488351300) (hb : Bytes w (some ad) l) :
    Calls Tryd.prog 37 #[.slice (some ad) l.length cap] w fun e w' => ∃ v, e = .returned v ∧ Fresh w.heap.size w w' v l := by
  have qT : ∀ (w : World) (a : Option Addr) (n c n' c' : Nat), (binOp .eql 23 (.slice a n c) (.slice none n' c')).run Tryd.prog w = .ok (.bool a.isNone) w := fun w a n c n' c' => Lib.run_eql_slice_nil w _ _ a n c n' c' Tryd.underlying23
  have hb2 : Bytes (w.alloc (.cells #[] 5)) (some ad) l := hb.keep ((Fr.refl _ _).alloc _)
  go_enter Tryd.func37, Tryd.ntmps37
  go_wp2_with (at_builtin; refine wpList_apB _ rfl _ _ 23 rfl w.heap.size 5 Tryd.underlying23 info8 (.slice (some ⟨w.heap.size, 0, none⟩) 0 0) [] rfl (own_empty w 5) (some ad) _ cap l rfl rfl hb2 (fun h => by cases h) (by simp; omega) (by simp) ?_; intro v' w1 happ; have HA := Lib.hid happ; clear happ)
  go_ret
  have ha := HA.out
  exact ⟨v', rfl, Fresh.mk ha.own (fun e => by have := (ha.nil.1 e).1; cases this) (((Fr.refl _ _).alloc _).next ha.fr (by intro i hi hlt; simp [Value.ownBlock] at hi; omega))⟩

/-- a reader of wire's -/
def Rd (w : World) (p : Nat) (lv : Value) (e : Int) : Prop := w.heap[p]? = some (.cells #[lv, .int .i64 e] 108)
theorem Rd.c0 {w : World} {p : Nat} {lv : Value} {e : Int} (h : Rd w p lv e) : w.cell? ⟨p, 0, none⟩ = some lv := cell_of_row _ _ 0 _ _ _ h
theorem Rd.c1 {w : World} {p : Nat} {lv : Value} {e : Int} (h : Rd w p lv e) : w.cell? ⟨p, 1, none⟩ = some (.int .i64 e) := cell_of_row _ _ 1 _ _ _ h
theorem Rd.fz {w : World} {p : Nat} {lv : Value} {e : Int} (h : Rd w p lv e) (j : Nat) : w.frozen? ⟨p, j, none⟩ = false := frozen_of_row w p j _ _ h
theorem Rd.set0 {w : World} {p : Nat} {lv : Value} {e : Int} (h : Rd w p lv e) (u : Value) : Rd (w.setCell ⟨p, 0, none⟩ u) p u e := by
  unfold Rd
  rw [heap_setCell_same w p 0 _ _ _ h]
  rfl
theorem Rd.set1 {w : World} {p : Nat} {lv : Value} {e : Int} (h : Rd w p lv e) (z : Int) : Rd (w.setCell ⟨p, 1, none⟩ (.int .i64 z)) p lv z := by
  unfold Rd
  rw [heap_setCell_same w p 1 _ _ _ h]
  rfl
theorem take_late (p : Nat) (lv x y : Value) (e : Int) (w : World) (h : Rd w p lv e) (he : e ≠ 0) :
    Calls Tryd.prog 70 #[.pointer (some ⟨p, 0, none⟩), x, y] w fun r w' => r = .returned (.slice none 0 0) ∧ w = w' := by
  have hc1 := h.c1
  go_enter Tryd.func70, Tryd.ntmps70
  go_wp2_with fail
  go_ret
  exact ⟨rfl, rfl⟩
theorem take_arg (p : Nat) (g : Option Addr) (r c : Nat) (n : Int) (b : Bool) (w : World) (h : Rd w p (.slice g r c) 0) (hn : b = false ∨ n < 0) :
    Calls Tryd.prog 70 #[.pointer (some ⟨p, 0, none⟩), .int .i64 n, .bool b] w fun e w' => e = .returned (.slice none 0 0) ∧ Rd w' p (.slice none 0 0) 2 ∧ Fr [p] w w' := by
  have hc1 := h.c1
  have hc0 := h.c0
  have hz0 := h.fz 0
  have hz1 := h.fz 1
  have HE := Lib.hid (show Rd ((w.setCell ⟨p, 1, none⟩ (.int .i64 2)).setCell ⟨p, 0, none⟩ (.slice none 0 0)) p (.slice none 0 0) 2 from (h.set1 2).set0 _)
  have HF := Lib.hid (show Fr [p] w ((w.setCell ⟨p, 1, none⟩ (.int .i64 2)).setCell ⟨p, 0, none⟩ (.slice none 0 0)) from ((Fr.refl _ _).setCell (by simp) _).setCell (by simp) _)
  cases b with
  | false =>
    clear hn
    go_enter Tryd.func70, Tryd.ntmps70
    go_wp2_with fail
    go_ret
    exact ⟨rfl, HE.out, HF.out⟩
  | true =>
    have hneg : n < 0 := by simpa using hn
    clear hn
    go_enter Tryd.func70, Tryd.ntmps70
    go_wp2_with fail
    go_ret
    exact ⟨rfl, HE.out, HF.out⟩
theorem take_short (p : Nat) (g : Option Addr) (r c : Nat) (n : Int) (w : World) (h : Rd w p (.slice g r c) 0) (hn : (r : Int) < n) :
    Calls Tryd.prog 70 #[.pointer (some ⟨p, 0, none⟩), .int .i64 n, .bool true] w fun e w' => e = .returned (.slice none 0 0) ∧ Rd w' p (.slice none 0 0) 10 ∧ Fr [p] w w' := by
  have hc1 := h.c1
  have hc0 := h.c0
  have hz0 := h.fz 0
  have hz1 := h.fz 1
  have hpos : ¬ n < 0 := by omega
  have HE := Lib.hid (show Rd ((w.setCell ⟨p, 1, none⟩ (.int .i64 10)).setCell ⟨p, 0, none⟩ (.slice none 0 0)) p (.slice none 0 0) 10 from (h.set1 10).set0 _)
  have HF := Lib.hid (show Fr [p] w ((w.setCell ⟨p, 1, none⟩ (.int .i64 10)).setCell ⟨p, 0, none⟩ (.slice none 0 0)) from ((Fr.refl _ _).setCell (by simp) _).setCell (by simp) _)
  go_enter Tryd.func70, Tryd.ntmps70
  go_wp2_with fail
  go_ret
  exact ⟨rfl, HE.out, HF.out⟩
theorem take_yes (p g o r c n : Nat) (w : World) (h : Rd w p (.slice (some ⟨g, o, none⟩) r c) 0) (hn : n ≤ r) (hc : r ≤ c) :
    Calls Tryd.prog 70 #[.pointer (some ⟨p, 0, none⟩), .int .i64 n, .bool true] w fun e w' => e = .returned (.slice (some ⟨g, o, none⟩) n c) ∧ (∃ o', Rd w' p (.slice (some ⟨g, o', none⟩) (r - n) (c - n)) 0 ∧ (n < r → o' = o + n)) ∧ Fr [p] w w' := by
  have hc1 := h.c1
  have hc0 := h.c0
  have hz0 := h.fz 0
  have hz1 := h.fz 1
  have hpos : ¬ (n : Int) < 0 := by omega
  have hle : ¬ (r : Int) < (n : Int) := by omega
  by_cases hcn : c = n
  · have hrn : r = n := by omega
    subst hrn
    subst hcn
    have HE := Lib.hid (show Rd (w.setCell ⟨p, 0, none⟩ (.slice (some ⟨g, o, none⟩) 0 0)) p (.slice (some ⟨g, o, none⟩) 0 0) 0 from h.set0 _)
    have HF := Lib.hid (show Fr [p] w (w.setCell ⟨p, 0, none⟩ (.slice (some ⟨g, o, none⟩) 0 0)) from (Fr.refl _ _).setCell (by simp) _)
    go_enter Tryd.func70, Tryd.ntmps70
    go_wp2_with fail
    go_ret
    exact ⟨rfl, ⟨o, HE.out⟩, HF.out⟩
  · have HE := Lib.hid (show Rd (w.setCell ⟨p, 0, none⟩ (.slice (some ⟨g, o + n, none⟩) (r - n) (c - n))) p (.slice (some ⟨g, o + n, none⟩) (r - n) (c - n)) 0 from h.set0 _)
    have HF := Lib.hid (show Fr [p] w (w.setCell ⟨p, 0, none⟩ (.slice (some ⟨g, o + n, none⟩) (r - n) (c - n))) from (Fr.refl _ _).setCell (by simp) _)
    go_enter Tryd.func70, Tryd.ntmps70
    go_wp2_with fail
    go_ret
    exact ⟨rfl, ⟨o + n, HE.out, fun _ => rfl⟩, HF.out⟩
theorem NewReader_any (ad : Addr) (cap : Nat) (l : List UInt8) (w : World) (hl : l.length ≤ 140737488351300) (hb : Bytes w (some ad) l) :
    Calls Tryd.prog 60 #[.slice (some ad) l.length cap] w fun e w' => ∃ p g c, e = .returned (.pointer (some ⟨p, 0, none⟩)) ∧ Rd w' p (.slice (some ⟨g, 0, none⟩) l.length c) 0 ∧ l.length ≤ c ∧ Bytes w' (some ⟨g, 0, none⟩) l ∧ w.heap.size ≤ g ∧ g < p ∧ p < w'.heap.size ∧ Fr [] w w' := by
  go_enter Tryd.func60, Tryd.ntmps60
  go_wp2_with fail
  refine (Clone_some ad cap l w hl hb).mono ?_
  rintro e w1 ⟨v, rfl, hfr⟩
  obtain ⟨g, c, rfl, hg, hlt, hb1, hf1⟩ := hfr.bytes
  have hcap := hfr.cap
  go_wp2_with fail
  go_ret
  exact ⟨_, g, c, rfl, heap_alloc_new w1 _, hcap, hb1.keep ((Fr.refl _ _).alloc _), hg, hlt, by simp, hf1.alloc _⟩
end Go.Proofs.YtibhbfmljibeaaaDoor
