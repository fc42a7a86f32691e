/- Lists of the call's own whose content is of no matter: written over, appended to. -/
import Derived.Test.YtlckhfjkdahfpaaDoorFresh
namespace Go.Proofs.YtlckhfjkdahfpaaDoor
open Go.RowKit

/-- a list of bytes of the call's own, whatever it reads as -/
def OwnB (w : World) (B : Nat) (v : Value) (n : Nat) : Prop := ∃ l : List UInt8, l.length = n ∧ w.ownsRow B 5 1 v n (l.map B8)
theorem OwnB.of {w : World} {B : Nat} {v : Value} {l : List UInt8} (h : w.ownsRow B 5 1 v l.length (l.map B8)) : OwnB w B v l.length := ⟨l, rfl, h⟩
theorem spl_addr {w : World} {B e n m cap : Nat} {a : Option Addr} {xs : List Value} (h : w.ownsRow B e 1 (.slice a m cap) n xs) (hn : 0 < n) : ∃ g, a = some ⟨g, 0, none⟩ ∧ B ≤ g ∧ m = n := by
  rcases h.2 with ⟨e1, h0⟩ | ⟨g, cap', cur, e1, hb, _⟩
  · omega
  · simp only [Value.slice.injEq] at e1
    exact ⟨g, e1.1, hb, e1.2.1⟩
theorem spl_len {w : World} {B e n m c : Nat} {a : Option Addr} {xs : List Value} (h : w.ownsRow B e 1 (.slice a m c) n xs) : m = n := by
  rcases h.2 with ⟨e1, e2⟩ | ⟨g, cap, cur, e1, _⟩
  · simp only [Value.slice.injEq] at e1; omega
  · simp only [Value.slice.injEq] at e1; omega
theorem spl_none {w : World} {B e n cap m : Nat} {a : Option Addr} {xs : List Value} (h : w.ownsRow B e 1 (.slice a n cap) m xs) : a = none → cap = 0 := by
  intro ha
  rcases h.2 with ⟨e1, _⟩ | ⟨g, cap', cur, e1, _⟩
  · simp only [Value.slice.injEq] at e1; exact e1.2.2
  · simp only [Value.slice.injEq] at e1; rw [ha] at e1; cases e1.1
/-- a cell of what is owned -/
theorem spl_cell {w : World} {B e n m cap g k : Nat} {xs : List Value} (h : w.ownsRow B e 1 (.slice (some ⟨g, 0, none⟩) m cap) n xs) (hk : k < n) : (∃ y, w.cell? ⟨g, k, none⟩ = some y) ∧ w.frozen? ⟨g, k, none⟩ = false := by
  have hl := h.1
  rcases h.2 with ⟨e1, _⟩ | ⟨g', cap', cur, e1, _, hh, hn, hm, hs, _⟩
  · cases e1
  · simp only [Value.slice.injEq, Option.some.injEq, Addr.mk.injEq] at e1
    obtain ⟨⟨rfl, _⟩, _, rfl⟩ := e1
    refine ⟨⟨cur[k]'(by omega), ?_⟩, frozen_of_row w g k _ _ hh⟩
    rw [cell_of_row w g k _ _ _ hh, Array.getElem?_eq_getElem (by omega)]
theorem spl_set {w : World} {B e n m cap g : Nat} {xs : List Value} (h : w.ownsRow B e 1 (.slice (some ⟨g, 0, none⟩) m cap) n xs) (k : Nat) (u : Value) : (w.setCell ⟨g, k, none⟩ u).ownsRow B e 1 (.slice (some ⟨g, 0, none⟩) m cap) n (xs.set k u) := by
  rcases h.2 with ⟨e1, _⟩ | ⟨g', cap', cur, e1, hb, hh, hn, hm, hs, ht⟩
  · cases e1
  simp only [Value.slice.injEq, Option.some.injEq, Addr.mk.injEq] at e1
  obtain ⟨⟨rfl, _⟩, rfl, rfl⟩ := e1
  refine ⟨by rw [List.length_set]; exact h.1, .inr ⟨g, cap, _, rfl, hb, heap_setCell_same w g k cur _ _ hh, hn, hm, by simp [hs], ?_⟩⟩
  rw [Array.toList_setIfInBounds, List.take_set, ht]
theorem OwnB.addr {w : World} {B n m c : Nat} {a : Option Addr} (h : OwnB w B (.slice a m c) n) (hn : 0 < n) : ∃ g, a = some ⟨g, 0, none⟩ ∧ B ≤ g ∧ m = n := by
  obtain ⟨l, _, h⟩ := h
  exact spl_addr h hn
theorem OwnB.cell {w : World} {B n m c g k : Nat} (h : OwnB w B (.slice (some ⟨g, 0, none⟩) m c) n) (hk : k < n) : (∃ y, w.cell? ⟨g, k, none⟩ = some y) ∧ w.frozen? ⟨g, k, none⟩ = false := by
  obtain ⟨l, _, h⟩ := h
  exact spl_cell h hk
theorem OwnB.set {w : World} {B n m c g : Nat} (h : OwnB w B (.slice (some ⟨g, 0, none⟩) m c) n) (k : Nat) (x : UInt8) : OwnB (w.setCell ⟨g, k, none⟩ (B8 x)) B (.slice (some ⟨g, 0, none⟩) m c) n := by
  obtain ⟨l, hl, h⟩ := h
  exact ⟨l.set k x, by rw [List.length_set]; exact hl, by rw [List.map_set]; exact spl_set h k (B8 x)⟩
/-- .. by its number -/
theorem OwnB.setN {w : World} {B n m c g : Nat} (h : OwnB w B (.slice (some ⟨g, 0, none⟩) m c) n) (k x : Nat) (hx : x < 256) : OwnB (w.setCell ⟨g, k, none⟩ (.int .u8 (x : Int))) B (.slice (some ⟨g, 0, none⟩) m c) n := by
  have := h.set k (UInt8.ofNat x)
  unfold B8 at this
  rwa [I8_of_nat x hx] at this
theorem OwnB.keep {S : List Nat} {w w' : World} {B n : Nat} {v : Value} (h : OwnB w B v n) (hf : Fr S w w') (hS : ∀ i, v.ownBlock = some i → i ∉ S) : OwnB w' B v n := by
  obtain ⟨l, hl, h⟩ := h
  exact ⟨l, hl, own_fr h hf hS⟩
theorem OwnB.lt {w : World} {B n : Nat} {v : Value} (h : OwnB w B v n) {i : Nat} (hi : v.ownBlock = some i) : B ≤ i ∧ i < w.heap.size := by
  obtain ⟨l, _, h⟩ := h
  exact own_lt h hi
/-- a list of numbers of the call's own, whatever it reads as -/
def OwnI (w : World) (B : Nat) (v : Value) (n : Nat) : Prop := ∃ l : List Int, l.length = n ∧ w.ownsRow B 3 1 v n (l.map (Value.int .i64))
theorem OwnI.of {w : World} {B : Nat} {v : Value} {l : List Int} (h : w.ownsRow B 3 1 v l.length (l.map (Value.int .i64))) : OwnI w B v l.length := ⟨l, rfl, h⟩
theorem OwnI.addr {w : World} {B n m c : Nat} {a : Option Addr} (h : OwnI w B (.slice a m c) n) (hn : 0 < n) : ∃ g, a = some ⟨g, 0, none⟩ ∧ B ≤ g ∧ m = n := by
  obtain ⟨l, _, h⟩ := h
  exact spl_addr h hn
theorem OwnI.cell {w : World} {B n m c g k : Nat} (h : OwnI w B (.slice (some ⟨g, 0, none⟩) m c) n) (hk : k < n) : (∃ y, w.cell? ⟨g, k, none⟩ = some y) ∧ w.frozen? ⟨g, k, none⟩ = false := by
  obtain ⟨l, _, h⟩ := h
  exact spl_cell h hk
theorem OwnI.set {w : World} {B n m c g : Nat} (h : OwnI w B (.slice (some ⟨g, 0, none⟩) m c) n) (k : Nat) (x : Int) : OwnI (w.setCell ⟨g, k, none⟩ (.int .i64 x)) B (.slice (some ⟨g, 0, none⟩) m c) n := by
  obtain ⟨l, hl, h⟩ := h
  exact ⟨l.set k x, by rw [List.length_set]; exact hl, by rw [List.map_set]; exact spl_set h k (.int .i64 x)⟩
theorem OwnI.keep {S : List Nat} {w w' : World} {B n : Nat} {v : Value} (h : OwnI w B v n) (hf : Fr S w w') (hS : ∀ i, v.ownBlock = some i → i ∉ S) : OwnI w' B v n := by
  obtain ⟨l, hl, h⟩ := h
  exact ⟨l, hl, own_fr h hf hS⟩
theorem OwnI.lt {w : World} {B n : Nat} {v : Value} (h : OwnI w B v n) {i : Nat} (hi : v.ownBlock = some i) : B ≤ i ∧ i < w.heap.size := by
  obtain ⟨l, _, h⟩ := h
  exact own_lt h hi
theorem mem_blk {v : Value} {i : Nat} (h : i ∈ v.ownBlock.toList) : v.ownBlock = some i := by simpa using h
end Go.Proofs.YtlckhfjkdahfpaaDoor
