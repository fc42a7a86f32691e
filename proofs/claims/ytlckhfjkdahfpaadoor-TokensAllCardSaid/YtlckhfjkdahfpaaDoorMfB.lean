/- The document's record files: a list of records of the call's own; a file in memory. -/
import Derived.Test.YtlckhfjkdahfpaaDoorRfE
import Derived.Test.YtlckhfjkdahfpaaDoorOff
import Derived.Test.YtlckhfjkdahfpaaDoorWireG
namespace Go.Proofs.YtlckhfjkdahfpaaDoor
open Go.RowKit

/-- a record of the document's file -/
structure RI where
  u : Bool
  a : Option Addr
  c : Nat
  d : List UInt8
def RI.v (x : RI) : Value := .slice x.a x.d.length x.c
def RI.p (x : RI) : Bool × List UInt8 := (x.u, x.d)
def riCells (X : List RI) : List Value := X.flatMap fun x => [.bool x.u, x.v]
theorem riCells_cons (x : RI) (X : List RI) : riCells (x :: X) = .bool x.u :: x.v :: riCells X := by unfold riCells; rw [List.flatMap_cons]; rfl
theorem riCells_snoc (X : List RI) (x : RI) : riCells (X ++ [x]) = riCells X ++ [.bool x.u, x.v] := by unfold riCells; rw [List.flatMap_append]; simp
theorem riCells_length : ∀ (X : List RI), (riCells X).length = X.length * 2
  | [] => rfl
  | x :: X => by
    have := riCells_length X
    rw [riCells_cons, List.length_cons, List.length_cons, this, List.length_cons]
    omega
theorem riCells_get : ∀ (X : List RI) (k : Nat) (h : k < X.length), (riCells X)[k * 2]? = some (.bool (X[k]'h).u) ∧ (riCells X)[k * 2 + 1]? = some (X[k]'h).v
  | x :: X, 0, _ => by rw [riCells_cons]; exact ⟨rfl, rfl⟩
  | x :: X, k + 1, h => by
    have ih := riCells_get X k (by simpa using h)
    rw [riCells_cons, show (k + 1) * 2 = k * 2 + 1 + 1 by omega]
    simpa using ih
theorem riCells_set : ∀ (X : List RI) (k : Nat) (y : RI), riCells (X.set k y) = ((riCells X).set (k * 2) (.bool y.u)).set (k * 2 + 1) y.v
  | [], k, y => rfl
  | x :: X, 0, y => by rw [List.set_cons_zero, riCells_cons, riCells_cons]; rfl
  | x :: X, k + 1, y => by
    have ih := riCells_set X k y
    rw [List.set_cons_succ, riCells_cons, riCells_cons, ih, show (k + 1) * 2 = k * 2 + 1 + 1 by omega]
    rfl
/-- what the document's file holds where the program's holds 'o' -/
def docO (sz : Nat) : Option (List UInt8) → Bool × List UInt8
  | none => (false, zs (sz - 1))
  | some d => (true, d)
theorem docO_u (sz : Nat) (o : Option (List UInt8)) : (docO sz o).1 = o.isSome := by cases o <;> rfl
theorem docO_len {sz : Nat} {o : Option (List UInt8)} (h : ∀ d, o = some d → d.length + 1 = sz) : (docO sz o).2.length = sz - 1 := by
  cases o with
  | none => exact zs_length _
  | some d => have := h d rfl; show d.length = _; omega
theorem infoRI : (Tryd.prog.info? 86).map (fun i => (i.zero, i.size, i.bytes)) = some (some (.agg #[.bool false, .slice none 0 0]), 2, 32) := by kernel_rfl
/-- a list of records, in memory of the call's own -/
structure ML (w : World) (B : Nat) (v : Value) (X : List RI) : Prop where
  row : w.ownsRow B 86 2 v X.length (riCells X)
  dat : ∀ x ∈ X, w.ownsRow B 5 1 x.v x.d.length (x.d.map B8)
def mlB (v : Value) (X : List RI) : List Nat := v.ownBlock.toList ++ X.flatMap fun x => x.v.ownBlock.toList
theorem mlB_v {v : Value} {X : List RI} {g : Nat} (h : v.ownBlock = some g) : g ∈ mlB v X := List.mem_append_left _ (by simpa using h)
theorem mlB_x {v : Value} {X : List RI} {x : RI} {g : Nat} (hx : x ∈ X) (h : x.v.ownBlock = some g) : g ∈ mlB v X := List.mem_append_right _ (List.mem_flatMap.2 ⟨x, hx, by simpa using h⟩)
theorem mlB_cases {v : Value} {X : List RI} {g : Nat} (h : g ∈ mlB v X) : v.ownBlock = some g ∨ ∃ x ∈ X, x.v.ownBlock = some g := by
  rcases List.mem_append.1 h with h | h
  · exact .inl (by simpa using h)
  · obtain ⟨x, hx, h⟩ := List.mem_flatMap.1 h
    exact .inr ⟨x, hx, by simpa using h⟩
theorem ML.lt {w : World} {B : Nat} {v : Value} {X : List RI} (h : ML w B v X) : ∀ i ∈ mlB v X, B ≤ i ∧ i < w.heap.size := by
  intro i hi
  rcases mlB_cases hi with hi | ⟨x, hx, hi⟩
  · exact own_lt h.row hi
  · exact own_lt (h.dat x hx) hi
theorem ML.fr {S : List Nat} {w w' : World} {B : Nat} {v : Value} {X : List RI} (h : ML w B v X) (hf : Fr S w w') (hS : ∀ i ∈ mlB v X, i ∉ S) : ML w' B v X :=
  ⟨own_fr h.row hf fun g hg => hS g (mlB_v hg), fun x hx => own_fr (h.dat x hx) hf fun g hg => hS g (mlB_x hx hg)⟩
theorem ML.keep {w w' : World} {B : Nat} {v : Value} {X : List RI} (h : ML w B v X) (hf : Fr [] w w') : ML w' B v X := h.fr hf (by simp)
theorem ML.nil (w : World) (B : Nat) : ML w B (.slice none 0 0) [] := ⟨World.ownsRow_nil _ _ _ _, fun _ h => (List.not_mem_nil h).elim⟩
/-- data are in other blocks than the list's own -/
theorem ML.off {w : World} {B : Nat} {v : Value} {X : List RI} (h : ML w B v X) {g : Nat} (hg : v.ownBlock = some g) : ∀ x ∈ X, x.v.ownBlock ≠ some g := by
  intro x hx e
  rcases h.row.2 with ⟨rfl, _⟩ | ⟨g', cap, cur, rfl, _, hh, _⟩
  · cases hg
  · simp only [Value.ownBlock, Option.some.injEq] at hg
    subst hg
    exact own_ne (h.dat x hx) hh (by decide) e
theorem ML.sl {w : World} {B : Nat} {v : Value} {X : List RI} (h : ML w B v X) : ∃ a c, v = .slice a X.length c ∧ X.length ≤ c := by
  rcases h.row.2 with ⟨rfl, h0⟩ | ⟨g, cap, cur, rfl, _, _, hn, _⟩
  · exact ⟨none, 0, by rw [h0], by omega⟩
  · exact ⟨_, _, rfl, hn⟩
theorem ML.pos {w : World} {B n c : Nat} {a : Option Addr} {X : List RI} (h : ML w B (.slice a n c) X) (hX : 0 < X.length) : ∃ g, a = some ⟨g, 0, none⟩ ∧ B ≤ g ∧ n = X.length := by
  rcases h.row.2 with ⟨_, h0⟩ | ⟨g, cap, cur, e, hB, _⟩
  · omega
  · simp only [Value.slice.injEq] at e
    exact ⟨g, e.1, hB, e.2.1⟩
theorem own_freeS {w : World} {B e size : Nat} {v : Value} {n : Nat} {xs : List Value} (h : w.ownsRow B e size v n xs) {g : Nat} (hg : v.ownBlock = some g) (j : Nat) : w.frozen? ⟨g, j, none⟩ = false := by
  rcases h.2 with ⟨rfl, _⟩ | ⟨g', cap, cur, rfl, _, hh, _⟩
  · simp [Value.ownBlock] at hg
  · simp only [Value.ownBlock, Option.some.injEq] at hg
    subst hg
    exact frozen_of_row w g' j _ _ hh
theorem ML.cell {w : World} {B g n c k : Nat} {X : List RI} (h : ML w B (.slice (some ⟨g, 0, none⟩) n c) X) (hk : k < X.length) : w.cell? ⟨g, k * 2, none⟩ = some (.bool X[k].u) ∧ w.cell? ⟨g, k * 2 + 1, none⟩ = some X[k].v ∧ ∀ j, w.frozen? ⟨g, j, none⟩ = false := by
  obtain ⟨g1, g2⟩ := riCells_get X k hk
  obtain ⟨_, -, -, hn⟩ := h.pos (by omega)
  subst hn
  have rX : OwnO w B 86 2 (.slice (some ⟨g, 0, none⟩) X.length c) X.length (riCells X) := OwnO.of h.row
  refine ⟨?_, ?_, fun j => own_freeS h.row rfl j⟩
  · have h := (rX.cell (k * 2) (by rw [riCells_length X]; omega)).1; rw [g1, Nat.zero_add] at h; exact h
  · have h := (rX.cell (k * 2 + 1) (by rw [riCells_length X]; omega)).1; rw [g2, Nat.zero_add] at h; exact h
/-- two cells of a row of the call's own are written -/
theorem own_set2 {w : World} {B e size n m cap g : Nat} {xs : List Value} (h : w.ownsRow B e size (.slice (some ⟨g, 0, none⟩) m cap) n xs) (k : Nat) (u : Value) : (w.setCell ⟨g, k, none⟩ u).ownsRow B e size (.slice (some ⟨g, 0, none⟩) m cap) n (xs.set k u) := by
  rcases h.2 with ⟨e1, _⟩ | ⟨g', cap', cur, e1, hb, hh, hn, hm, hs, ht⟩
  · cases e1
  simp only [Value.slice.injEq, Option.some.injEq, Addr.mk.injEq] at e1
  obtain ⟨⟨rfl, _⟩, rfl, rfl⟩ := e1
  refine ⟨by rw [List.length_set]; exact h.1, .inr ⟨g, cap, _, rfl, hb, heap_setCell_same w g k cur _ _ hh, hn, hm, by simp [hs], ?_⟩⟩
  rw [Array.toList_setIfInBounds, List.take_set, ht]
/-- an item is laid anew -/
theorem ML.set {w : World} {B g n c k : Nat} {X : List RI} {y : RI} (h : ML w B (.slice (some ⟨g, 0, none⟩) n c) X) (hy : w.ownsRow B 5 1 y.v y.d.length (y.d.map B8)) : ML ((w.setCell ⟨g, k * 2, none⟩ (.bool y.u)).setCell ⟨g, k * 2 + 1, none⟩ y.v) B (.slice (some ⟨g, 0, none⟩) n c) (X.set k y) := by
  have hf : Fr [g] w ((w.setCell ⟨g, k * 2, none⟩ (.bool y.u)).setCell ⟨g, k * 2 + 1, none⟩ y.v) := ((Fr.refl [g] w).setCell (by simp) _).setCell (by simp) _
  refine ⟨?_, fun x hx => ?_⟩
  · rw [List.length_set, riCells_set]
    exact own_set2 (own_set2 h.row _ _) _ _
  rcases List.mem_or_eq_of_mem_set hx with hx | rfl
  · exact own_fr (h.dat x hx) hf (fun i hi hm => by simp at hm; subst hm; exact h.off rfl x hx hi)
  · refine own_fr hy hf (fun i hi hm => ?_)
    simp at hm
    subst hm
    rcases h.row.2 with ⟨e, _⟩ | ⟨g', cap, cur, e, _, hh, _⟩
    · cases e
    · simp only [Value.slice.injEq, Option.some.injEq, Addr.mk.injEq] at e
      obtain ⟨⟨rfl, _⟩, _⟩ := e
      exact own_ne hy hh (by decide) hi
theorem mlB_set {v : Value} {X : List RI} {k : Nat} {y : RI} {i : Nat} (h : i ∈ mlB v (X.set k y)) : i ∈ mlB v X ∨ y.v.ownBlock = some i := by
  rcases mlB_cases h with h | ⟨x, hx, h⟩
  · exact .inl (mlB_v h)
  · rcases List.mem_or_eq_of_mem_set hx with hx | he
    · exact .inl (mlB_x hx h)
    · exact .inr (he ▸ h)
/-- an item more -/
theorem ML.app {w w' : World} {B : Nat} {v v' : Value} {X : List RI} {y : RI} (h : ML w B v X) (hy : w.ownsRow B 5 1 y.v y.d.length (y.d.map B8)) (ha : App w w' B 86 2 v v' X.length 1 (riCells X) [.bool y.u, y.v]) (hyo : ∀ g, y.v.ownBlock = some g → v.ownBlock ≠ some g) : ML w' B v' (X ++ [y]) := by
  have hf := app_frZ ha
  refine ⟨by rw [List.length_append, riCells_snoc]; exact ha.own, fun x hx => ?_⟩
  rcases List.mem_append.1 hx with hx | hx
  · exact own_fr (h.dat x hx) hf (fun i hi hm => h.off (by simpa using hm) x hx hi)
  · rw [List.mem_singleton.1 hx]
    exact own_fr hy hf (fun i hi hm => hyo i hi (by simpa using hm))
theorem mlB_app {w w' : World} {B : Nat} {v v' : Value} {X : List RI} {y : RI} {xs ys : List Value} {n m : Nat} (ha : App w w' B 86 2 v v' n m xs ys) {i : Nat} (h : i ∈ mlB v' (X ++ [y])) : i ∈ mlB v X ∨ w.heap.size ≤ i ∨ y.v.ownBlock = some i := by
  rcases mlB_cases h with h | ⟨x, hx, h⟩
  · rcases ha.blk with hb | ⟨g, hb, hg⟩
    · exact .inl (mlB_v (hb ▸ h))
    · rw [hb] at h; cases h; exact .inr (.inl hg)
  · rcases List.mem_append.1 hx with hx | hx
    · exact .inl (mlB_x hx h)
    · exact .inr (.inr (List.mem_singleton.1 hx ▸ h))
structure MFH (w : World) (B p : Nat) (v : Value) (X : List RI) (s : RFS) : Prop where
  obj : w.heap[p]? = some (.cells #[.int .i64 s.kd, .int .i64 s.vr, .int .i64 s.sz, v] 84)
  recs : ML w B v X
  opt : X.map RI.p = s.R.map (docO s.sz)
  ok : s.Ok
  base : B ≤ p
theorem MFH.len {w : World} {B p : Nat} {v : Value} {X : List RI} {s : RFS} (h : MFH w B p v X s) : X.length = s.R.length := by have := congrArg List.length h.opt; simpa using this
def mfB (p : Nat) (v : Value) (X : List RI) : List Nat := p :: mlB v X
/-- the document's file in memory, in the blocks bs -/
def MF (B : Nat) (bs : List Nat) (w : World) (p : Nat) (s : RFS) : Prop := ∃ v X, MFH w B p v X s ∧ bs = mfB p v X
theorem MFH.lt {w : World} {B p : Nat} {v : Value} {X : List RI} {s : RFS} (h : MFH w B p v X s) : ∀ i ∈ mfB p v X, B ≤ i ∧ i < w.heap.size := by
  intro i hi
  rcases List.mem_cons.1 hi with rfl | hi
  · exact ⟨h.base, (Array.getElem?_eq_some_iff.1 h.obj).1⟩
  · exact h.recs.lt i hi
theorem MFH.fr {S : List Nat} {w w' : World} {B p : Nat} {v : Value} {X : List RI} {s : RFS} (h : MFH w B p v X s) (hf : Fr S w w') (hS : ∀ i ∈ mfB p v X, i ∉ S) : MFH w' B p v X s :=
  ⟨hf.obj h.obj (hS p List.mem_cons_self), h.recs.fr hf fun i hi => hS i (List.mem_cons_of_mem _ hi), h.opt, h.ok, h.base⟩
theorem MFH.keep {w w' : World} {B p : Nat} {v : Value} {X : List RI} {s : RFS} (h : MFH w B p v X s) (hf : Fr [] w w') : MFH w' B p v X s := h.fr hf (by simp)
theorem MF.lt {B p : Nat} {bs : List Nat} {w : World} {s : RFS} (h : MF B bs w p s) : ∀ i ∈ bs, B ≤ i ∧ i < w.heap.size := by
  obtain ⟨v, X, h, rfl⟩ := h
  exact h.lt
theorem MF.fr {S : List Nat} {B p : Nat} {bs : List Nat} {w w' : World} {s : RFS} (h : MF B bs w p s) (hf : Fr S w w') (hS : ∀ i ∈ bs, i ∉ S) : MF B bs w' p s := by
  obtain ⟨v, X, h, rfl⟩ := h
  exact ⟨v, X, h.fr hf hS, rfl⟩
theorem MF.keep {B p : Nat} {bs : List Nat} {w w' : World} {s : RFS} (h : MF B bs w p s) (hf : Fr [] w w') : MF B bs w' p s := h.fr hf (by simp)
theorem MF.ok {B p : Nat} {bs : List Nat} {w : World} {s : RFS} (h : MF B bs w p s) : s.Ok := by
  obtain ⟨v, X, h, _⟩ := h
  exact h.ok
theorem MF.own {B p : Nat} {bs : List Nat} {w : World} {s : RFS} (h : MF B bs w p s) : B ≤ w.heap.size := by
  obtain ⟨v, X, h, rfl⟩ := h
  have := h.lt p List.mem_cons_self
  omega
/-- 'low' is the program's own matter -/
theorem MF.toLow {B p : Nat} {bs : List Nat} {w : World} {s : RFS} (h : MF B bs w p s) {k : Nat} (hk : k ≤ lowest s.R) : MF B bs w p (s.toLow k) := by
  obtain ⟨v, X, h, rfl⟩ := h
  exact ⟨v, X, ⟨h.obj, h.recs, h.opt, h.ok.toLow hk, h.base⟩, rfl⟩
theorem MF.clean {B p : Nat} {bs : List Nat} {w0 w w' : World} {s : RFS} (h : MF B bs w p s) (hB : w0.heap.size ≤ B) (hf : Fr [] w0 w) (hs : Fr bs w w') : Fr [] w0 w' :=
  hf.next hs fun i hi hlt => by have := (h.lt i hi).1; omega
theorem four {w : World} {b T : Nat} {c0 c1 c2 c3 : Value} (h : w.heap[b]? = some (.cells #[c0, c1, c2, c3] T)) : w.cell? ⟨b, 0, none⟩ = some c0 ∧ w.cell? ⟨b, 1, none⟩ = some c1 ∧ w.cell? ⟨b, 2, none⟩ = some c2 ∧ w.cell? ⟨b, 3, none⟩ = some c3 :=
  ⟨cell_of_row _ _ 0 _ _ _ h, cell_of_row _ _ 1 _ _ _ h, cell_of_row _ _ 2 _ _ _ h, cell_of_row _ _ 3 _ _ _ h⟩
/-- a list's block is no file -/
theorem MFH.ne {w : World} {B p : Nat} {v : Value} {X : List RI} {s : RFS} (h : MFH w B p v X s) : v.ownBlock ≠ some p := by
  intro e
  rcases h.recs.row.2 with ⟨rfl, _⟩ | ⟨g, cap, cur, rfl, _, hh, _⟩
  · cases e
  · simp only [Value.ownBlock, Option.some.injEq] at e
    subst e
    rw [h.obj] at hh
    have := Option.some.inj hh
    simp only [Obj.cells.injEq] at this
    exact absurd this.2.1 (by decide)
theorem MFH.offB {w : World} {B p : Nat} {v : Value} {X : List RI} {s : RFS} (h : MFH w B p v X s) : p ∉ mlB v X := by
  intro hm
  rcases mlB_cases hm with h1 | ⟨x, hx, h1⟩
  · exact h.ne h1
  · exact own_ne (h.recs.dat x hx) h.obj (by decide) h1
/-- what stands at a place -/
theorem MFH.at {w : World} {B p g n c k : Nat} {X : List RI} {s : RFS} (h : MFH w B p (.slice (some ⟨g, 0, none⟩) n c) X s) (hk : k < s.R.length) : ∃ (x : RI) (h' : k < X.length), X[k] = x ∧ x.p = docO s.sz (s.R.getD k none) ∧ w.cell? ⟨g, k * 2, none⟩ = some (.bool (s.R.getD k none).isSome) ∧ w.cell? ⟨g, k * 2 + 1, none⟩ = some x.v ∧ w.ownsRow B 5 1 x.v x.d.length (x.d.map B8) ∧ x.d.length = s.sz - 1 := by
  have hX : k < X.length := by rw [h.len]; exact hk
  have hp : X[k].p = docO s.sz (s.R.getD k none) := by
    have h1 := congrArg (fun l => l[k]?) h.opt
    simp only [List.getElem?_map, List.getElem?_eq_getElem hX, List.getElem?_eq_getElem hk, Option.map_some, Option.some.injEq] at h1
    rw [h1, List.getD_eq_getElem?_getD, List.getElem?_eq_getElem hk]
    rfl
  obtain ⟨c1, c2, _⟩ := h.recs.cell hX
  have hu : X[k].u = (s.R.getD k none).isSome := by rw [← docO_u s.sz, ← hp]; rfl
  refine ⟨X[k], hX, rfl, hp, by rw [c1, hu], c2, h.recs.dat _ (List.getElem_mem hX), ?_⟩
  have h2 : X[k].d = (docO s.sz (s.R.getD k none)).2 := by rw [← hp]; rfl
  rw [h2]
  refine docO_len fun d hd => h.ok.dat.get (k := k) ?_
  rw [List.getD_eq_getElem?_getD, List.getElem?_eq_getElem hk] at hd
  rw [List.getElem?_eq_getElem hk]
  exact congrArg some hd
end Go.Proofs.YtlckhfjkdahfpaaDoor

/- The document's record files: New, zeros, Used, Live, Get. -/
namespace Go.Proofs.YtlckhfjkdahfpaaDoor
open Go.RowKit
attribute [local go_sem ↓] Go.wp_at_zero Go.wp_at_succ
theorem own_by9 {w : World} {B n c e : Nat} {a : Option Addr} {l : List UInt8} (h : w.ownsRow B e 1 (.slice a n c) l.length (l.map B8)) : Bytes w a l ∧ l.length ≤ c := by
  obtain ⟨a', c', e1, hb, hc, _⟩ := Bytes.of_own h
  simp only [Value.slice.injEq] at e1
  obtain ⟨rfl, _, rfl⟩ := e1
  exact ⟨hb, hc⟩
theorem zs_snoc (k : Nat) : zs (k + 1) = zs k ++ [0] := by unfold zs; exact List.replicate_succ' 
theorem liveN_take (R : Recs) (k : Nat) (h : k < R.length) : liveN (R.take (k + 1)) = liveN (R.take k) + (if (R.getD k none).isSome = true then 1 else 0) := by
  rw [take_snoc R k h]
  unfold liveN
  rw [List.countP_append, List.getD_eq_getElem?_getD, List.getElem?_eq_getElem h, List.countP_cons]
  simp
end Go.Proofs.YtlckhfjkdahfpaaDoor
