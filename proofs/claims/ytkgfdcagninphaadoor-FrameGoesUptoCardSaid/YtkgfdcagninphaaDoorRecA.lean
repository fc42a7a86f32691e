/- The leaves of the records' layers: ranges, copies, comparison of bytes. -/
import Derived.Test.YtkgfdcagninphaaDoorWireN
import Derived.Test.YtkgfdcagninphaaDoorWireK
import Derived.Deep.RegionHeld3
import Derived.Deep.DrawnRows
namespace Go.Proofs.YtkgfdcagninphaaDoor
open Go.RowKit

/-- low or more, and below most -/
def inB (n low most : Int) : Bool := decide (low ≤ n) && decide (n < most)
theorem inB_iff {n low most : Int} : inB n low most = true ↔ low ≤ n ∧ n < most := by unfold inB; simp
theorem inB_true {n low most : Int} (h : low ≤ n) (h2 : n < most) : inB n low most = true := inB_iff.2 ⟨h, h2⟩
theorem inB_false {n low most : Int} (h : ¬ (low ≤ n ∧ n < most)) : inB n low most = false := by
  cases e : inB n low most
  · rfl
  · exact absurd (inB_iff.1 e) h
theorem ret_bool {a b : Bool} (h : a = b) : Ending.returned (.bool a) = Ending.returned (.bool b) := by rw [h]
/-- the address reads as these numbers -/
def Ints (w : World) (a : Option Addr) (l : List Int) : Prop :=
  l = [] ∨ ∃ b off, a = some ⟨b, off, none⟩ ∧ ∀ j, j < l.length → w.cell? ⟨b, off + j, none⟩ = some (.int .i64 (l.getD j 0))
theorem Ints.nil (w : World) (a : Option Addr) : Ints w a [] := Or.inl rfl
theorem Ints.at {w : World} {a : Option Addr} {l : List Int} (h : Ints w a l) (hl : 0 < l.length) : ∃ b off, a = some ⟨b, off, none⟩ ∧ ∀ j, j < l.length → w.cell? ⟨b, off + j, none⟩ = some (.int .i64 (l.getD j 0)) := by
  rcases h with rfl | h
  · simp at hl
  · exact h
theorem Ints.fr {S : List Nat} {w w' : World} {a : Option Addr} {l : List Int} (h : Ints w a l) (hf : Fr S w w') (ho : l = [] ∨ ∀ ad, a = some ad → ad.block ∉ S) : Ints w' a l := by
  rcases h with rfl | ⟨b, off, rfl, hc⟩
  · exact Or.inl rfl
  · rcases ho with rfl | ho
    · exact Or.inl rfl
    · exact Or.inr ⟨b, off, rfl, fun j hj => hf.cell (hc j hj) (ho ⟨b, off, none⟩ rfl)⟩
theorem Ints.keep {w w' : World} {a : Option Addr} {l : List Int} (h : Ints w a l) (hf : Fr [] w w') : Ints w' a l := h.fr hf (Or.inr fun _ _ => by simp)
/-- a new block that holds these numbers -/
theorem Ints.new {w : World} {arr : Array Value} {t : Nat} {fr : Nat × Nat} {g : Nat} (l : List Int) (hg : g = w.heap.size) (ha : arr = (l.map (Value.int .i64)).toArray) : Ints (w.alloc (.cells arr t fr)) (some ⟨g, 0, none⟩) l := by
  subst ha
  subst hg
  refine Or.inr ⟨w.heap.size, 0, rfl, fun j hj => ?_⟩
  rw [Nat.zero_add, cell_of_row _ _ j _ t fr (heap_alloc_new w _), List.getElem?_toArray]
  simp [List.getD, hj]
theorem clone_any (a : Option Addr) (cap : Nat) (l : List UInt8) (w : World) (hl : l.length ≤ 140737488351300) (hno : a = none → cap = 0) (hb : Bytes w a l) :
    Calls Tryd.prog 12 #[.slice a l.length cap] w fun e w' => ∃ v, e = .returned v ∧ Fresh w.heap.size w w' v l := by
  have hb2 : Bytes (w.alloc (.cells #[] 5)) a l := hb.keep ((Fr.refl _ _).alloc _)
  have HN := Lib.hid hno
  clear hno
  go_enter Tryd.func12, Tryd.ntmps12
  go_wp2_with (at_builtin; refine wpList_apB _ rfl _ _ 23 rfl w.heap.size 5 Tryd.underlying23 info8 (.slice (some ⟨w.heap.size, 0, none⟩) 0 0) [] rfl (own_empty w 5) a _ cap l rfl rfl hb2 HN.out (by simp; omega) (by simp) ?_; intro v' w1 happ; have HA := Lib.hid happ; clear happ)
  go_ret
  have ha := HA.out
  refine ⟨v', rfl, Fresh.mk ?_ (fun e => by have := (ha.nil.1 e).1; cases this) (((Fr.refl _ _).alloc _).next ha.fr (by intro i hi hlt; simp [Value.ownBlock] at hi; omega))⟩
  have h := ha.own
  simpa only [List.nil_append] using h
theorem same_any (a b : Option Addr) (c d : Nat) (l m : List UInt8) (w : World) (hna : a = none → c = 0) (hnb : b = none → d = 0) (ha : Bytes w a l) (hb : Bytes w b m) :
    Calls Tryd.prog 15 #[.slice a l.length c, .slice b m.length d] w fun e w' => e = .returned (.bool (l == m)) ∧ w = w' := by
  have h1 := conv_any a c l w hna ha
  have h2 := conv_any b d m w hnb hb
  clear hna hnb
  go_enter Tryd.func15, Tryd.ntmps15
  go_wp2_with fail
  go_ret
  exact ⟨rfl, rfl⟩
end Go.Proofs.YtkgfdcagninphaaDoor
