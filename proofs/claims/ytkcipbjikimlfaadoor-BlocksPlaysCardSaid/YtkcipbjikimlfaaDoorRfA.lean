/- Record files: a list of lists of bytes of the call's own; a file in memory. -/
import Derived.Test.YtkcipbjikimlfaaDoorRfP
import Derived.Test.YtkcipbjikimlfaaDoorApp
import Derived.Test.YtkcipbjikimlfaaDoorFresh
import Derived.Test.YtkcipbjikimlfaaDoorRecW
import Derived.Test.YtkcipbjikimlfaaDoorSpoil
namespace Go.Proofs.YtkcipbjikimlfaaDoor
open Go.RowKit

theorem infoLB : (Tryd.prog.info? 22).map (fun i => (i.zero, i.size, i.bytes)) = some (some (.slice none 0 0), 1, 24) := by kernel_rfl
/-- a list of bytes of the call's own, or nil -/
structure LI where
  a : Option Addr
  c : Nat
  d : List UInt8
def LI.v (x : LI) : Value := .slice x.a x.d.length x.c
def LI.o (x : LI) : Option (List UInt8) := match x.a with | none => none | some _ => some x.d
/-- nil -/
def LI.no : LI := ⟨none, 0, []⟩
theorem LI.no_v : LI.no.v = .slice none 0 0 := rfl
theorem LI.no_o : LI.no.o = none := rfl
/-- a list of such lists, in memory of the call's own -/
structure LL (w : World) (B : Nat) (v : Value) (X : List LI) : Prop where
  row : w.ownsRow B 22 1 v X.length (X.map LI.v)
  dat : ∀ x ∈ X, w.ownsRow B 5 1 x.v x.d.length (x.d.map B8)
def llB (v : Value) (X : List LI) : List Nat := v.ownBlock.toList ++ X.flatMap fun x => x.v.ownBlock.toList
theorem llB_v {v : Value} {X : List LI} {g : Nat} (h : v.ownBlock = some g) : g ∈ llB v X := List.mem_append_left _ (by simpa using h)
theorem llB_x {v : Value} {X : List LI} {x : LI} {g : Nat} (hx : x ∈ X) (h : x.v.ownBlock = some g) : g ∈ llB v X := List.mem_append_right _ (List.mem_flatMap.2 ⟨x, hx, by simpa using h⟩)
theorem llB_cases {v : Value} {X : List LI} {g : Nat} (h : g ∈ llB v X) : v.ownBlock = some g ∨ ∃ x ∈ X, x.v.ownBlock = some g := by
  rcases List.mem_append.1 h with h | h
  · exact .inl (by simpa using h)
  · obtain ⟨x, hx, h⟩ := List.mem_flatMap.1 h
    exact .inr ⟨x, hx, by simpa using h⟩
theorem LL.lt {w : World} {B : Nat} {v : Value} {X : List LI} (h : LL w B v X) : ∀ i ∈ llB v X, B ≤ i ∧ i < w.heap.size := by
  intro i hi
  rcases llB_cases hi with hi | ⟨x, hx, hi⟩
  · exact own_lt h.row hi
  · exact own_lt (h.dat x hx) hi
theorem LL.fr {S : List Nat} {w w' : World} {B : Nat} {v : Value} {X : List LI} (h : LL w B v X) (hf : Fr S w w') (hS : ∀ i ∈ llB v X, i ∉ S) : LL w' B v X :=
  ⟨own_fr h.row hf fun g hg => hS g (llB_v hg), fun x hx => own_fr (h.dat x hx) hf fun g hg => hS g (llB_x hx hg)⟩
theorem LL.keep {w w' : World} {B : Nat} {v : Value} {X : List LI} (h : LL w B v X) (hf : Fr [] w w') : LL w' B v X := h.fr hf (by simp)
theorem LL.nil (w : World) (B : Nat) : LL w B (.slice none 0 0) [] := ⟨World.ownsRow_nil _ _ _ _, fun _ h => (List.not_mem_nil h).elim⟩
theorem LL.base {w : World} {B B' : Nat} {v : Value} {X : List LI} (h : LL w B v X) (hB : B' ≤ B) : LL w B' v X := ⟨own_base h.row hB, fun x hx => own_base (h.dat x hx) hB⟩
/-- data are in other blocks than the list's own -/
theorem LL.off {w : World} {B : Nat} {v : Value} {X : List LI} (h : LL w B v X) {g : Nat} (hg : v.ownBlock = some g) : ∀ x ∈ X, x.v.ownBlock ≠ some g := by
  intro x hx e
  rcases h.row.2 with ⟨rfl, _⟩ | ⟨g', cap, cur, rfl, _, hh, _⟩
  · cases hg
  · simp only [Value.ownBlock, Option.some.injEq] at hg
    subst hg
    rcases (h.dat x hx).2 with ⟨e2, _⟩ | ⟨g2, cap2, cur2, e2, _, hh2, _⟩
    · rw [e2] at e; cases e
    · rw [e2] at e
      simp only [Value.ownBlock, Option.some.injEq] at e
      subst e
      rw [hh] at hh2
      have := Option.some.inj hh2
      simp only [Obj.cells.injEq] at this
      exact absurd this.2.1 (by decide)
theorem LL.sl {w : World} {B : Nat} {v : Value} {X : List LI} (h : LL w B v X) : ∃ a c, v = .slice a X.length c ∧ X.length ≤ c := by
  rcases h.row.2 with ⟨rfl, h0⟩ | ⟨g, cap, cur, rfl, _, _, hn, _⟩
  · exact ⟨none, 0, by rw [h0], by omega⟩
  · exact ⟨_, _, rfl, hn⟩
theorem LL.pos {w : World} {B n c : Nat} {a : Option Addr} {X : List LI} (h : LL w B (.slice a n c) X) (hX : 0 < X.length) : ∃ g, a = some ⟨g, 0, none⟩ ∧ B ≤ g ∧ n = X.length := by
  rcases h.row.2 with ⟨_, h0⟩ | ⟨g, cap, cur, e, hB, _⟩
  · omega
  · simp only [Value.slice.injEq] at e
    exact ⟨g, e.1, hB, e.2.1⟩
theorem LL.cell {w : World} {B g n c k : Nat} {X : List LI} (h : LL w B (.slice (some ⟨g, 0, none⟩) n c) X) (hk : k < X.length) : w.cell? ⟨g, k, none⟩ = some X[k].v ∧ w.frozen? ⟨g, k, none⟩ = false := by
  rcases h.row.2 with ⟨e, _⟩ | ⟨g', cap, cur, e, _, hh, hn, _, hs, ht⟩
  · cases e
  · simp only [Value.slice.injEq, Option.some.injEq, Addr.mk.injEq] at e
    obtain ⟨⟨rfl, _⟩, _, rfl⟩ := e
    refine ⟨?_, frozen_of_row w g k _ _ hh⟩
    rw [cell_of_row w g k _ _ _ hh]
    have h1 : (cur.toList.take (X.length * 1))[k]? = (X.map LI.v)[k]? := by rw [ht]
    rw [List.getElem?_take_of_lt (by omega), Array.getElem?_toList, List.getElem?_map, List.getElem?_eq_getElem hk] at h1
    exact h1
/-- an item of nil is nil -/
theorem LL.isNil {w : World} {B : Nat} {v : Value} {X : List LI} (h : LL w B v X) {x : LI} (hx : x ∈ X) (ha : x.a = none) : x = LI.no := by
  rcases (h.dat x hx).2 with ⟨e, h0⟩ | ⟨g, cap, cur, e, _⟩
  · simp only [LI.v, Value.slice.injEq] at e
    obtain ⟨a, c, d⟩ := x
    simp only at e h0
    rw [e.1, e.2.2, List.eq_nil_of_length_eq_zero h0]
    rfl
  · simp only [LI.v, Value.slice.injEq] at e
    rw [ha] at e
    cases e.1
/-- .. and one that is not has a block -/
theorem LL.isSome {w : World} {B : Nat} {v : Value} {X : List LI} (h : LL w B v X) {x : LI} (hx : x ∈ X) {d : List UInt8} (ho : x.o = some d) : ∃ g c, x = ⟨some ⟨g, 0, none⟩, c, d⟩ ∧ B ≤ g ∧ d.length ≤ c := by
  obtain ⟨a, c, dd⟩ := x
  cases a with
  | none => cases ho
  | some ad =>
    simp only [LI.o, Option.some.injEq] at ho
    subst ho
    rcases (h.dat _ hx).2 with ⟨e, _⟩ | ⟨g, cap, cur, e, hB, _, hn, _⟩
    · cases e
    · simp only [LI.v, Value.slice.injEq, Option.some.injEq] at e
      obtain ⟨rfl, _, rfl⟩ := e
      exact ⟨g, c, rfl, hB, hn⟩
/-- an item is laid anew -/
theorem LL.set {w : World} {B g n c k : Nat} {X : List LI} {y : LI} (h : LL w B (.slice (some ⟨g, 0, none⟩) n c) X) (hy : w.ownsRow B 5 1 y.v y.d.length (y.d.map B8)) : LL (w.setCell ⟨g, k, none⟩ y.v) B (.slice (some ⟨g, 0, none⟩) n c) (X.set k y) := by
  have hf : Fr [g] w (w.setCell ⟨g, k, none⟩ y.v) := (Fr.refl [g] w).setCell (by simp) _
  have hr := spl_set h.row k y.v
  refine ⟨by rw [List.length_set, List.map_set]; exact hr, fun x hx => ?_⟩
  rcases List.mem_or_eq_of_mem_set hx with hx | rfl
  · exact own_fr (h.dat x hx) hf (fun i hi hm => by simp at hm; subst hm; exact h.off rfl x hx hi)
  · refine own_fr hy hf (fun i hi hm => ?_)
    simp at hm
    subst hm
    rcases h.row.2 with ⟨e, _⟩ | ⟨g', cap, cur, e, _, hh, _⟩
    · cases e
    · simp only [Value.slice.injEq, Option.some.injEq, Addr.mk.injEq] at e
      obtain ⟨⟨rfl, _⟩, _⟩ := e
      rcases hy.2 with ⟨e2, _⟩ | ⟨g2, cap2, cur2, e2, _, hh2, _⟩
      · rw [e2] at hi; cases hi
      · rw [e2] at hi
        simp only [Value.ownBlock, Option.some.injEq] at hi
        subst hi
        rw [hh] at hh2
        have := Option.some.inj hh2
        simp only [Obj.cells.injEq] at this
        exact absurd this.2.1 (by decide)
theorem llB_set {v : Value} {X : List LI} {k : Nat} {y : LI} {i : Nat} (h : i ∈ llB v (X.set k y)) : i ∈ llB v X ∨ y.v.ownBlock = some i := by
  rcases llB_cases h with h | ⟨x, hx, h⟩
  · exact .inl (llB_v h)
  · rcases List.mem_or_eq_of_mem_set hx with hx | he
    · exact .inl (llB_x hx h)
    · exact .inr (he ▸ h)
/-- an item more -/
theorem LL.app {w w' : World} {B : Nat} {v v' : Value} {X : List LI} {y : LI} (h : LL w B v X) (hy : w.ownsRow B 5 1 y.v y.d.length (y.d.map B8)) (ha : App w w' B 22 1 v v' X.length 1 (X.map LI.v) [y.v]) (hf : Fr v.ownBlock.toList w w') (hyo : ∀ g, y.v.ownBlock = some g → v.ownBlock ≠ some g) : LL w' B v' (X ++ [y]) := by
  refine ⟨by rw [List.length_append, List.map_append]; exact ha.own, fun x hx => ?_⟩
  rcases List.mem_append.1 hx with hx | hx
  · exact own_fr (h.dat x hx) hf (fun i hi hm => h.off (by simpa using hm) x hx hi)
  · rw [List.mem_singleton.1 hx]
    exact own_fr hy hf (fun i hi hm => hyo i hi (by simpa using hm))
theorem llB_app {w w' : World} {B : Nat} {v v' : Value} {X : List LI} {y : LI} {xs ys : List Value} {n m : Nat} (ha : App w w' B 22 1 v v' n m xs ys) {i : Nat} (h : i ∈ llB v' (X ++ [y])) : i ∈ llB v X ∨ w.heap.size ≤ i ∨ y.v.ownBlock = some i := by
  rcases llB_cases h with h | ⟨x, hx, h⟩
  · rcases ha.blk with hb | ⟨g, hb, hg⟩
    · exact .inl (llB_v (hb ▸ h))
    · rw [hb] at h; cases h; exact .inr (.inl hg)
  · rcases List.mem_append.1 hx with hx | hx
    · exact .inl (llB_x hx h)
    · exact .inr (.inr (List.mem_singleton.1 hx ▸ h))
end Go.Proofs.YtkcipbjikimlfaaDoor
