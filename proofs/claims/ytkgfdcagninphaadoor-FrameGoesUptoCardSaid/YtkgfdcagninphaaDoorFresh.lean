/- New memory that reads as bytes did. -/
import Derived.Test.YtkgfdcagninphaaDoorApp
import Derived.Test.YtkgfdcagninphaaDoorProg
namespace Go.Proofs.YtkgfdcagninphaaDoor
open Go.RowKit
theorem info8 : (Tryd.prog.info? 5).map (fun i => (i.zero, i.size, i.bytes)) = some (some (.int .u8 0), 1, 1) := by kernel_rfl

/-- new memory that reads as the bytes did -/
def Fresh (B : Nat) (w w' : World) (v : Value) (l : List UInt8) : Prop :=
  ∃ g cap, v = .slice (some ⟨g, 0, none⟩) l.length cap ∧ B ≤ g ∧ g < w'.heap.size ∧ w'.ownsRow B 5 1 v l.length (l.map B8) ∧ Fr [] w w'
theorem Fresh.bytes {B : Nat} {w w' : World} {v : Value} {l : List UInt8} (h : Fresh B w w' v l) : ∃ g cap, v = .slice (some ⟨g, 0, none⟩) l.length cap ∧ B ≤ g ∧ g < w'.heap.size ∧ Bytes w' (some ⟨g, 0, none⟩) l ∧ Fr [] w w' := by
  obtain ⟨g, cap, rfl, hg, hlt, ho, hf⟩ := h
  obtain ⟨a, cap', e, hb, _⟩ := Bytes.of_own ho
  simp only [Value.slice.injEq] at e
  obtain ⟨rfl, _, rfl⟩ := e
  exact ⟨g, _, rfl, hg, hlt, hb, hf⟩

theorem Fresh.free {B : Nat} {w w' : World} {v : Value} {l : List UInt8} (h : Fresh B w w' v l) : ∀ g, v.ownBlock = some g → ∀ j, w'.frozen? ⟨g, j, none⟩ = false := by
  intro g hg j
  obtain ⟨_, _, rfl, _, _, ho, _⟩ := h
  rcases ho.2 with ⟨e, _⟩ | ⟨g', cap', cur, e, _, hh, _⟩
  · cases e
  · simp only [Value.slice.injEq, Option.some.injEq, Addr.mk.injEq] at e
    obtain ⟨⟨rfl, _⟩, _⟩ := e
    simp only [Value.ownBlock, Option.some.injEq] at hg
    subst hg
    exact frozen_of_row w' _ j _ _ hh
theorem Fresh.mk {B : Nat} {w w' : World} {v : Value} {l : List UInt8} (h : w'.ownsRow B 5 1 v l.length (l.map B8)) (hn : v ≠ .slice none 0 0) (hf : Fr [] w w') : Fresh B w w' v l := by
  have hx := h.2
  rcases hx with ⟨e, _⟩ | ⟨g, cap, cur, rfl, hg, hh, _⟩
  · exact absurd e hn
  · exact ⟨g, cap, rfl, hg, (Array.getElem?_eq_some_iff.1 hh).1, h, hf⟩
/-- memory of the call's own that reads as the bytes did (nil where there were none) -/
def Got (B : Nat) (w w' : World) (v : Value) (l : List UInt8) : Prop := w'.ownsRow B 5 1 v l.length (l.map B8) ∧ Fr [] w w'
theorem Fresh.got {B : Nat} {w w' : World} {v : Value} {l : List UInt8} (h : Fresh B w w' v l) : Got B w w' v l := by
  obtain ⟨_, _, _, _, _, ho, hf⟩ := h
  exact ⟨ho, hf⟩
theorem Got.addr {B : Nat} {w w' : World} {v : Value} {l : List UInt8} (h : Got B w w' v l) (hl : 0 < l.length) : ∃ g cap, v = .slice (some ⟨g, 0, none⟩) l.length cap ∧ B ≤ g ∧ g < w'.heap.size ∧ l.length ≤ cap := by
  rcases h.1.2 with ⟨_, h0⟩ | ⟨g, cap, cur, rfl, hg, hh, hn, _⟩
  · omega
  · exact ⟨g, cap, rfl, hg, (Array.getElem?_eq_some_iff.1 hh).1, hn⟩
theorem Got.bytes {B : Nat} {w w' : World} {v : Value} {l : List UInt8} (h : Got B w w' v l) : ∃ a cap, v = .slice a l.length cap ∧ Bytes w' a l ∧ l.length ≤ cap ∧ (a = none → cap = 0) ∧ (∀ ad, a = some ad → B ≤ ad.block ∧ ad.off = 0 ∧ ad.spot = none) := by
  obtain ⟨a, cap, e, h1, h2, _, h3, h4⟩ := Bytes.of_own h.1
  exact ⟨a, cap, e, h1, h2, h3, h4⟩
theorem own_bytes {w : World} {B e : Nat} {g cap : Nat} {l : List UInt8} (h : w.ownsRow B e 1 (.slice (some ⟨g, 0, none⟩) l.length cap) l.length (l.map B8)) : Bytes w (some ⟨g, 0, none⟩) l := by
  obtain ⟨a, cap', e1, hb, _⟩ := Bytes.of_own h
  simp only [Value.slice.injEq] at e1
  obtain ⟨rfl, _, rfl⟩ := e1
  exact hb
theorem own_free {w : World} {B e : Nat} {v : Value} {n : Nat} {xs : List Value} (h : w.ownsRow B e 1 v n xs) {g : Nat} (hg : v.ownBlock = some g) (j : Nat) : w.frozen? ⟨g, j, none⟩ = false := by
  rcases h.2 with ⟨rfl, _⟩ | ⟨g', cap, cur, rfl, _, hh, _⟩
  · simp [Value.ownBlock] at hg
  · simp only [Value.ownBlock, Option.some.injEq] at hg
    subst hg
    exact frozen_of_row w g' j _ _ hh
/-- a cell of an own row is written -/
theorem own_set {w : World} {B e : Nat} {g cap : Nat} {l : List UInt8} (h : w.ownsRow B e 1 (.slice (some ⟨g, 0, none⟩) l.length cap) l.length (l.map B8)) (k : Nat) (x : UInt8) : (w.setCell ⟨g, k, none⟩ (B8 x)).ownsRow B e 1 (.slice (some ⟨g, 0, none⟩) l.length cap) l.length ((l.set k x).map B8) := by
  rcases h.2 with ⟨e1, _⟩ | ⟨g', cap', cur, e1, hb, hh, hn, hm, hs, ht⟩
  · cases e1
  simp only [Value.slice.injEq, Option.some.injEq, Addr.mk.injEq] at e1
  obtain ⟨⟨rfl, _⟩, _, rfl⟩ := e1
  refine ⟨by simp, .inr ⟨g, cap, _, rfl, hb, heap_setCell_same w g k cur _ _ hh, hn, hm, by simp [hs], ?_⟩⟩
  rw [Array.toList_setIfInBounds, List.take_set, ht, List.map_set]
/-- a list of the call's own that grows; the blocks of K are not its own -/
structure Grow (K : List Nat) (w0 wr : World) (v : Value) (xs : List UInt8) : Prop where
  own : wr.ownsRow w0.heap.size 5 1 v xs.length (xs.map B8)
  nil : v ≠ .slice none 0 0
  off : ∀ g ∈ K, g < wr.heap.size ∧ v.ownBlock ≠ some g
  fr : Fr [] w0 wr
theorem Grow.alloc {K : List Nat} {w0 wr : World} {v : Value} {xs : List UInt8} (h : Grow K w0 wr v xs) (o : Obj) : Grow K w0 (wr.alloc o) v xs :=
  ⟨own_alloc h.own o, h.nil, fun g hg => ⟨by have := (h.off g hg).1; simp; omega, (h.off g hg).2⟩, h.fr.alloc o⟩
theorem Grow.app {K : List Nat} {w0 wr w1 : World} {v v' : Value} {xs l : List UInt8} (h : Grow K w0 wr v xs) (ha : AppB wr w1 w0.heap.size 5 v v' xs l) : Grow K w0 w1 v' (xs ++ l) := by
  refine ⟨ha.own, fun e => h.nil (ha.nil.1 e).1, fun g hg => ⟨Nat.lt_of_lt_of_le (h.off g hg).1 ha.fr.size, fun e => ?_⟩, h.fr.next ha.fr fun i hi hlt => ?_⟩
  · rcases ha.blk with hb | ⟨g', hb, hg'⟩
    · exact (h.off g hg).2 (hb.symm.trans e)
    · rw [hb] at e
      have := Option.some.inj e
      have := (h.off g hg).1
      omega
  · have := (own_lt h.own (g := i) (by simpa using hi)).1
    omega
theorem Grow.keep {K : List Nat} {w0 wr w1 : World} {v v' : Value} {xs l m : List UInt8} {g off : Nat} (h : Grow K w0 wr v xs) (ha : AppB wr w1 w0.heap.size 5 v v' xs l) (hg : g ∈ K) (hb : Bytes wr (some ⟨g, off, none⟩) m) : Bytes w1 (some ⟨g, off, none⟩) m :=
  hb.fr ha.fr (.inr fun ad e => by cases e; simp; exact (h.off g hg).2)
theorem Grow.size {K : List Nat} {w0 wr : World} {v : Value} {xs : List UInt8} (h : Grow K w0 wr v xs) : w0.heap.size ≤ wr.heap.size := h.fr.size
theorem Grow.fresh {K : List Nat} {w0 wr : World} {v : Value} {xs : List UInt8} (h : Grow K w0 wr v xs) : Fresh w0.heap.size w0 wr v xs := Fresh.mk h.own h.nil h.fr
theorem Fresh.grow {w w' : World} {v : Value} {l : List UInt8} (h : Fresh w.heap.size w w' v l) : Grow [] w w' v l := by
  obtain ⟨g, cap, rfl, hg, hlt, ho, hf⟩ := h
  exact ⟨ho, by simp, fun _ hk => (List.not_mem_nil hk).elim, hf⟩
/-- further on, with a new block that is none of its own -/
theorem Grow.next {K : List Nat} {w0 wr w1 : World} {v : Value} {xs : List UInt8} (h : Grow K w0 wr v xs) (hf : Fr [] wr w1) (g : Nat) (hg : wr.heap.size ≤ g) (hlt : g < w1.heap.size) : Grow (g :: K) w0 w1 v xs := by
  refine ⟨own_fr h.own hf (by simp), h.nil, fun k hk => ?_, h.fr.trans hf⟩
  rcases List.mem_cons.1 hk with rfl | hk
  · exact ⟨hlt, fun e => by have := (own_lt h.own e).2; omega⟩
  · exact ⟨Nat.lt_of_lt_of_le (h.off k hk).1 hf.size, (h.off k hk).2⟩
theorem Grow.fr0 {K : List Nat} {w0 wr w1 : World} {v : Value} {xs : List UInt8} (h : Grow K w0 wr v xs) (hf : Fr [] wr w1) : Grow K w0 w1 v xs :=
  ⟨own_fr h.own hf (by simp), h.nil, fun k hk => ⟨Nat.lt_of_lt_of_le (h.off k hk).1 hf.size, (h.off k hk).2⟩, h.fr.trans hf⟩
theorem Fresh.cap {B : Nat} {w w' : World} {a : Option Addr} {n cap : Nat} {l : List UInt8} (h : Fresh B w w' (.slice a n cap) l) : l.length ≤ cap := by
  obtain ⟨g, cap', e, _, _, ho, _⟩ := h
  rw [e] at ho
  simp only [Value.slice.injEq] at e
  obtain ⟨_, _, rfl⟩ := e
  rcases ho.2 with ⟨e, _⟩ | ⟨g', cap', cur, e, _, _, hn, _⟩
  · cases e
  · simp only [Value.slice.injEq] at e
    omega
end Go.Proofs.YtkgfdcagninphaaDoor
