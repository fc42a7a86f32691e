/- Record files: a list of lists of bytes of the call's own; a file in memory. -/
import Derived.Test.YtlckhfjkdahfpaaDoorRfP
import Derived.Test.YtlckhfjkdahfpaaDoorFresh
import Derived.Test.YtlckhfjkdahfpaaDoorRecW
import Derived.Test.YtlckhfjkdahfpaaDoorSpoil
import Derived.BigQuiet
namespace Go.Proofs.YtlckhfjkdahfpaaDoor
open Go.RowKit

theorem infoLB : (Tryd.prog.info? 37).map (fun i => (i.zero, i.size, i.bytes)) = some (some (.slice none 0 0), 1, 24) := by kernel_rfl
/-- a list of bytes of the call's own, or nil -/
structure LI where
  a : Option Addr
  c : Nat
  d : List UInt8
def LI.v (x : LI) : Value := .slice x.a x.d.length x.c
def LI.o (x : LI) : Option (List UInt8) := match x.a with | none => none | some _ => some x.d
/-- nil -/
def LI.no : LI := ⟨none, 0, []⟩
theorem LI.no_v : LI.no.v = .slice none 0 0 := rfl
theorem LI.no_o : LI.no.o = none := rfl
/-- a list of such lists, in memory of the call's own -/
structure LL (w : World) (B : Nat) (v : Value) (X : List LI) : Prop where
  row : w.ownsRow B 37 1 v X.length (X.map LI.v)
  dat : ∀ x ∈ X, w.ownsRow B 5 1 x.v x.d.length (x.d.map B8)
def llB (v : Value) (X : List LI) : List Nat := v.ownBlock.toList ++ X.flatMap fun x => x.v.ownBlock.toList
theorem llB_v {v : Value} {X : List LI} {g : Nat} (h : v.ownBlock = some g) : g ∈ llB v X := List.mem_append_left _ (by simpa using h)
theorem llB_x {v : Value} {X : List LI} {x : LI} {g : Nat} (hx : x ∈ X) (h : x.v.ownBlock = some g) : g ∈ llB v X := List.mem_append_right _ (List.mem_flatMap.2 ⟨x, hx, by simpa using h⟩)
theorem llB_cases {v : Value} {X : List LI} {g : Nat} (h : g ∈ llB v X) : v.ownBlock = some g ∨ ∃ x ∈ X, x.v.ownBlock = some g := by
  rcases List.mem_append.1 h with h | h
  · exact .inl (by simpa using h)
  · obtain ⟨x, hx, h⟩ := List.mem_flatMap.1 h
    exact .inr ⟨x, hx, by simpa using h⟩
theorem LL.lt {w : World} {B : Nat} {v : Value} {X : List LI} (h : LL w B v X) : ∀ i ∈ llB v X, B ≤ i ∧ i < w.heap.size := by
  intro i hi
  rcases llB_cases hi with hi | ⟨x, hx, hi⟩
  · exact own_lt h.row hi
  · exact own_lt (h.dat x hx) hi
theorem LL.fr {S : List Nat} {w w' : World} {B : Nat} {v : Value} {X : List LI} (h : LL w B v X) (hf : Fr S w w') (hS : ∀ i ∈ llB v X, i ∉ S) : LL w' B v X :=
  ⟨own_fr h.row hf fun g hg => hS g (llB_v hg), fun x hx => own_fr (h.dat x hx) hf fun g hg => hS g (llB_x hx hg)⟩
theorem LL.keep {w w' : World} {B : Nat} {v : Value} {X : List LI} (h : LL w B v X) (hf : Fr [] w w') : LL w' B v X := h.fr hf (by simp)
theorem LL.nil (w : World) (B : Nat) : LL w B (.slice none 0 0) [] := ⟨World.ownsRow_nil _ _ _ _, fun _ h => (List.not_mem_nil h).elim⟩
theorem LL.base {w : World} {B B' : Nat} {v : Value} {X : List LI} (h : LL w B v X) (hB : B' ≤ B) : LL w B' v X := ⟨own_base h.row hB, fun x hx => own_base (h.dat x hx) hB⟩
/-- data are in other blocks than the list's own -/
theorem LL.off {w : World} {B : Nat} {v : Value} {X : List LI} (h : LL w B v X) {g : Nat} (hg : v.ownBlock = some g) : ∀ x ∈ X, x.v.ownBlock ≠ some g := by
  intro x hx e
  rcases h.row.2 with ⟨rfl, _⟩ | ⟨g', cap, cur, rfl, _, hh, _⟩
  · cases hg
  · simp only [Value.ownBlock, Option.some.injEq] at hg
    subst hg
    rcases (h.dat x hx).2 with ⟨e2, _⟩ | ⟨g2, cap2, cur2, e2, _, hh2, _⟩
    · rw [e2] at e; cases e
    · rw [e2] at e
      simp only [Value.ownBlock, Option.some.injEq] at e
      subst e
      rw [hh] at hh2
      have := Option.some.inj hh2
      simp only [Obj.cells.injEq] at this
      exact absurd this.2.1 (by decide)
theorem LL.sl {w : World} {B : Nat} {v : Value} {X : List LI} (h : LL w B v X) : ∃ a c, v = .slice a X.length c ∧ X.length ≤ c := by
  rcases h.row.2 with ⟨rfl, h0⟩ | ⟨g, cap, cur, rfl, _, _, hn, _⟩
  · exact ⟨none, 0, by rw [h0], by omega⟩
  · exact ⟨_, _, rfl, hn⟩
theorem LL.pos {w : World} {B n c : Nat} {a : Option Addr} {X : List LI} (h : LL w B (.slice a n c) X) (hX : 0 < X.length) : ∃ g, a = some ⟨g, 0, none⟩ ∧ B ≤ g ∧ n = X.length := by
  rcases h.row.2 with ⟨_, h0⟩ | ⟨g, cap, cur, e, hB, _⟩
  · omega
  · simp only [Value.slice.injEq] at e
    exact ⟨g, e.1, hB, e.2.1⟩
theorem LL.cell {w : World} {B g n c k : Nat} {X : List LI} (h : LL w B (.slice (some ⟨g, 0, none⟩) n c) X) (hk : k < X.length) : w.cell? ⟨g, k, none⟩ = some X[k].v ∧ w.frozen? ⟨g, k, none⟩ = false := by
  rcases h.row.2 with ⟨e, _⟩ | ⟨g', cap, cur, e, _, hh, hn, _, hs, ht⟩
  · cases e
  · simp only [Value.slice.injEq, Option.some.injEq, Addr.mk.injEq] at e
    obtain ⟨⟨rfl, _⟩, _, rfl⟩ := e
    refine ⟨?_, frozen_of_row w g k _ _ hh⟩
    rw [cell_of_row w g k _ _ _ hh]
    have h1 : (cur.toList.take (X.length * 1))[k]? = (X.map LI.v)[k]? := by rw [ht]
    rw [List.getElem?_take_of_lt (by omega), Array.getElem?_toList, List.getElem?_map, List.getElem?_eq_getElem hk] at h1
    exact h1
/-- an item of nil is nil -/
theorem LL.isNil {w : World} {B : Nat} {v : Value} {X : List LI} (h : LL w B v X) {x : LI} (hx : x ∈ X) (ha : x.a = none) : x = LI.no := by
  rcases (h.dat x hx).2 with ⟨e, h0⟩ | ⟨g, cap, cur, e, _⟩
  · simp only [LI.v, Value.slice.injEq] at e
    obtain ⟨a, c, d⟩ := x
    simp only at e h0
    rw [e.1, e.2.2, List.eq_nil_of_length_eq_zero h0]
    rfl
  · simp only [LI.v, Value.slice.injEq] at e
    rw [ha] at e
    cases e.1
/-- .. and one that is not has a block -/
theorem LL.isSome {w : World} {B : Nat} {v : Value} {X : List LI} (h : LL w B v X) {x : LI} (hx : x ∈ X) {d : List UInt8} (ho : x.o = some d) : ∃ g c, x = ⟨some ⟨g, 0, none⟩, c, d⟩ ∧ B ≤ g ∧ d.length ≤ c := by
  obtain ⟨a, c, dd⟩ := x
  cases a with
  | none => cases ho
  | some ad =>
    simp only [LI.o, Option.some.injEq] at ho
    subst ho
    rcases (h.dat _ hx).2 with ⟨e, _⟩ | ⟨g, cap, cur, e, hB, _, hn, _⟩
    · cases e
    · simp only [LI.v, Value.slice.injEq, Option.some.injEq] at e
      obtain ⟨rfl, _, rfl⟩ := e
      exact ⟨g, c, rfl, hB, hn⟩
/-- an item is laid anew -/
theorem LL.set {w : World} {B g n c k : Nat} {X : List LI} {y : LI} (h : LL w B (.slice (some ⟨g, 0, none⟩) n c) X) (hy : w.ownsRow B 5 1 y.v y.d.length (y.d.map B8)) : LL (w.setCell ⟨g, k, none⟩ y.v) B (.slice (some ⟨g, 0, none⟩) n c) (X.set k y) := by
  have hf : Fr [g] w (w.setCell ⟨g, k, none⟩ y.v) := (Fr.refl [g] w).setCell (by simp) _
  have hr := spl_set h.row k y.v
  refine ⟨by rw [List.length_set, List.map_set]; exact hr, fun x hx => ?_⟩
  rcases List.mem_or_eq_of_mem_set hx with hx | rfl
  · exact own_fr (h.dat x hx) hf (fun i hi hm => by simp at hm; subst hm; exact h.off rfl x hx hi)
  · refine own_fr hy hf (fun i hi hm => ?_)
    simp at hm
    subst hm
    rcases h.row.2 with ⟨e, _⟩ | ⟨g', cap, cur, e, _, hh, _⟩
    · cases e
    · simp only [Value.slice.injEq, Option.some.injEq, Addr.mk.injEq] at e
      obtain ⟨⟨rfl, _⟩, _⟩ := e
      rcases hy.2 with ⟨e2, _⟩ | ⟨g2, cap2, cur2, e2, _, hh2, _⟩
      · rw [e2] at hi; cases hi
      · rw [e2] at hi
        simp only [Value.ownBlock, Option.some.injEq] at hi
        subst hi
        rw [hh] at hh2
        have := Option.some.inj hh2
        simp only [Obj.cells.injEq] at this
        exact absurd this.2.1 (by decide)
theorem llB_set {v : Value} {X : List LI} {k : Nat} {y : LI} {i : Nat} (h : i ∈ llB v (X.set k y)) : i ∈ llB v X ∨ y.v.ownBlock = some i := by
  rcases llB_cases h with h | ⟨x, hx, h⟩
  · exact .inl (llB_v h)
  · rcases List.mem_or_eq_of_mem_set hx with hx | he
    · exact .inl (llB_x hx h)
    · exact .inr (he ▸ h)
/-- an item more -/
theorem LL.app {w w' : World} {B : Nat} {v v' : Value} {X : List LI} {y : LI} (h : LL w B v X) (hy : w.ownsRow B 5 1 y.v y.d.length (y.d.map B8)) (ha : App w w' B 37 1 v v' X.length 1 (X.map LI.v) [y.v]) (hf : Fr v.ownBlock.toList w w') (hyo : ∀ g, y.v.ownBlock = some g → v.ownBlock ≠ some g) : LL w' B v' (X ++ [y]) := by
  refine ⟨by rw [List.length_append, List.map_append]; exact ha.own, fun x hx => ?_⟩
  rcases List.mem_append.1 hx with hx | hx
  · exact own_fr (h.dat x hx) hf (fun i hi hm => h.off (by simpa using hm) x hx hi)
  · rw [List.mem_singleton.1 hx]
    exact own_fr hy hf (fun i hi hm => hyo i hi (by simpa using hm))
theorem llB_app {w w' : World} {B : Nat} {v v' : Value} {X : List LI} {y : LI} {xs ys : List Value} {n m : Nat} (ha : App w w' B 37 1 v v' n m xs ys) {i : Nat} (h : i ∈ llB v' (X ++ [y])) : i ∈ llB v X ∨ w.heap.size ≤ i ∨ y.v.ownBlock = some i := by
  rcases llB_cases h with h | ⟨x, hx, h⟩
  · rcases ha.blk with hb | ⟨g, hb, hg⟩
    · exact .inl (llB_v (hb ▸ h))
    · rw [hb] at h; cases h; exact .inr (.inl hg)
  · rcases List.mem_append.1 hx with hx | hx
    · exact .inl (llB_x hx h)
    · exact .inr (.inr (List.mem_singleton.1 hx ▸ h))
end Go.Proofs.YtlckhfjkdahfpaaDoor

/- Record files: a file in memory; New, what a file tells, Get. -/
namespace Go.Proofs.YtlckhfjkdahfpaaDoor
open Go.RowKit
attribute [local go_sem ↓] Go.wp_at_zero Go.wp_at_succ
/-- a file's state -/
structure RFS where
  kd : Nat
  vr : Nat
  sz : Nat
  low : Nat
  R : Recs
structure RFS.Ok (s : RFS) : Prop where
  kd : s.kd ≤ 255
  vr : s.vr ≤ 255
  lo : 2 ≤ s.sz
  hi : s.sz ≤ 255
  len : s.R.length ≤ 65536
  dat : Sized s.sz s.R
  low : ∀ i, i < s.low → ∃ d, s.R[i]? = some (some d)
theorem RFS.Ok.low_le {s : RFS} (h : s.Ok) : s.low ≤ s.R.length := by
  by_cases h0 : s.low ≤ s.R.length
  · exact h0
  · obtain ⟨d, hd⟩ := h.low s.R.length (by omega)
    rw [List.getElem?_eq_none (Nat.le_refl _)] at hd
    cases hd
structure RFH (w : World) (B p : Nat) (v : Value) (X : List LI) (s : RFS) : Prop where
  obj : w.heap[p]? = some (.cells #[.int .i64 s.kd, .int .i64 s.vr, .int .i64 s.sz, v, .int .i64 (liveN s.R), .int .i64 s.low] 93)
  recs : LL w B v X
  opt : X.map LI.o = s.R
  ok : s.Ok
  base : B ≤ p
theorem RFH.len {w : World} {B p : Nat} {v : Value} {X : List LI} {s : RFS} (h : RFH w B p v X s) : X.length = s.R.length := by rw [← h.opt, List.length_map]
def rfB (p : Nat) (v : Value) (X : List LI) : List Nat := p :: llB v X
/-- a file in memory, in the blocks bs -/
def RF (B : Nat) (bs : List Nat) (w : World) (p : Nat) (s : RFS) : Prop := ∃ v X, RFH w B p v X s ∧ bs = rfB p v X
theorem RFH.lt {w : World} {B p : Nat} {v : Value} {X : List LI} {s : RFS} (h : RFH w B p v X s) : ∀ i ∈ rfB p v X, B ≤ i ∧ i < w.heap.size := by
  intro i hi
  rcases List.mem_cons.1 hi with rfl | hi
  · exact ⟨h.base, (Array.getElem?_eq_some_iff.1 h.obj).1⟩
  · exact h.recs.lt i hi
theorem RFH.fr {S : List Nat} {w w' : World} {B p : Nat} {v : Value} {X : List LI} {s : RFS} (h : RFH w B p v X s) (hf : Fr S w w') (hS : ∀ i ∈ rfB p v X, i ∉ S) : RFH w' B p v X s :=
  ⟨hf.obj h.obj (hS p List.mem_cons_self), h.recs.fr hf fun i hi => hS i (List.mem_cons_of_mem _ hi), h.opt, h.ok, h.base⟩
theorem RFH.keep {w w' : World} {B p : Nat} {v : Value} {X : List LI} {s : RFS} (h : RFH w B p v X s) (hf : Fr [] w w') : RFH w' B p v X s := h.fr hf (by simp)
theorem RF.lt {B p : Nat} {bs : List Nat} {w : World} {s : RFS} (h : RF B bs w p s) : ∀ i ∈ bs, B ≤ i ∧ i < w.heap.size := by
  obtain ⟨v, X, h, rfl⟩ := h
  exact h.lt
theorem RF.fr {S : List Nat} {B p : Nat} {bs : List Nat} {w w' : World} {s : RFS} (h : RF B bs w p s) (hf : Fr S w w') (hS : ∀ i ∈ bs, i ∉ S) : RF B bs w' p s := by
  obtain ⟨v, X, h, rfl⟩ := h
  exact ⟨v, X, h.fr hf hS, rfl⟩
theorem RF.keep {B p : Nat} {bs : List Nat} {w w' : World} {s : RFS} (h : RF B bs w p s) (hf : Fr [] w w') : RF B bs w' p s := h.fr hf (by simp)
theorem RF.ok {B p : Nat} {bs : List Nat} {w : World} {s : RFS} (h : RF B bs w p s) : s.Ok := by
  obtain ⟨v, X, h, _⟩ := h
  exact h.ok
/-- what belongs to it turns, and new blocks may become its own -/
def Stp (bs : List Nat) (w : World) (bs' : List Nat) (w' : World) : Prop := Fr bs w w' ∧ ∀ i ∈ bs', i ∈ bs ∨ w.heap.size ≤ i
theorem Stp.refl (bs : List Nat) (w : World) : Stp bs w bs w := ⟨Fr.refl _ _, fun _ h => .inl h⟩
theorem Stp.trans {bs bs' bs'' : List Nat} {w w' w'' : World} (h : Stp bs w bs' w') (k : Stp bs' w' bs'' w'') : Stp bs w bs'' w'' := by
  refine ⟨h.1.next k.1 fun i hi hlt => ?_, fun i hi => ?_⟩
  · rcases h.2 i hi with h | h
    · exact h
    · omega
  · rcases k.2 i hi with h1 | h1
    · exact h.2 i h1
    · exact .inr (Nat.le_trans h.1.size h1)
theorem Stp.keepR {bs bs' : List Nat} {w w' w'' : World} (h : Stp bs w bs' w') (k : Fr [] w' w'') : Stp bs w bs' w'' := ⟨h.1.trans (k.mono (by simp)), h.2⟩
theorem Stp.keepL {bs bs' : List Nat} {w w' w'' : World} (k : Fr [] w w') (h : Stp bs w' bs' w'') : Stp bs w bs' w'' := ⟨(k.mono (by simp)).trans h.1, fun i hi => (h.2 i hi).imp id (Nat.le_trans k.size)⟩
/-- two that lie apart go on lying apart -/
theorem Stp.apart {bs bs' cs : List Nat} {w w' : World} (h : Stp bs w bs' w') (ha : ∀ i ∈ bs, i ∉ cs) (hc : ∀ i ∈ cs, i < w.heap.size) : ∀ i ∈ bs', i ∉ cs := fun i hi hm => by
  rcases h.2 i hi with h1 | h1
  · exact ha i h1 hm
  · have := hc i hm; omega
theorem Stp.apart' {bs bs' cs : List Nat} {w w' : World} (h : Stp bs w bs' w') (ha : ∀ i ∈ cs, i ∉ bs) (hc : ∀ i ∈ cs, i < w.heap.size) : ∀ i ∈ cs, i ∉ bs' := fun i hi hm => h.apart (fun j hj hk => ha j hk hj) hc i hm hi
theorem six {w : World} {b T : Nat} {c0 c1 c2 c3 c4 c5 : Value} (h : w.heap[b]? = some (.cells #[c0, c1, c2, c3, c4, c5] T)) : w.cell? ⟨b, 0, none⟩ = some c0 ∧ w.cell? ⟨b, 1, none⟩ = some c1 ∧ w.cell? ⟨b, 2, none⟩ = some c2 ∧ w.cell? ⟨b, 3, none⟩ = some c3 ∧ w.cell? ⟨b, 4, none⟩ = some c4 ∧ w.cell? ⟨b, 5, none⟩ = some c5 :=
  ⟨cell_of_row _ _ 0 _ _ _ h, cell_of_row _ _ 1 _ _ _ h, cell_of_row _ _ 2 _ _ _ h, cell_of_row _ _ 3 _ _ _ h, cell_of_row _ _ 4 _ _ _ h, cell_of_row _ _ 5 _ _ _ h⟩
theorem New_arg (kd vr sz : Int) (w : World) (hb : kd < 0 ∨ 255 < kd ∨ vr < 0 ∨ 255 < vr) : Calls Tryd.prog 27 #[.int .i64 kd, .int .i64 vr, .int .i64 sz] w fun e w' => e = .returned (.tuple #[.pointer none, .int .i64 2]) ∧ w = w' := by
  by_cases h1 : kd < 0
  · go_enter Tryd.func27, Tryd.ntmps27
    go_wp2
    go_ret2
    exact ⟨rfl, rfl⟩
  · by_cases h2 : 255 < kd
    · go_enter Tryd.func27, Tryd.ntmps27
      go_wp2
      go_ret2
      exact ⟨rfl, rfl⟩
    · by_cases h3 : vr < 0
      · go_enter Tryd.func27, Tryd.ntmps27
        go_wp2
        go_ret2
        exact ⟨rfl, rfl⟩
      · have h4 : 255 < vr := by omega
        go_enter Tryd.func27, Tryd.ntmps27
        go_wp2
        go_ret2
        exact ⟨rfl, rfl⟩
theorem New_size (kd vr sz : Int) (w : World) (hb : ¬ (kd < 0 ∨ 255 < kd ∨ vr < 0 ∨ 255 < vr)) (hz : sz < 2 ∨ 255 < sz) : Calls Tryd.prog 27 #[.int .i64 kd, .int .i64 vr, .int .i64 sz] w fun e w' => e = .returned (.tuple #[.pointer none, .int .i64 4]) ∧ w = w' := by
  have h1 : ¬ kd < 0 := by omega
  have h2 : ¬ 255 < kd := by omega
  have h3 : ¬ vr < 0 := by omega
  have h4 : ¬ 255 < vr := by omega
  by_cases h5 : sz < 2
  · go_enter Tryd.func27, Tryd.ntmps27
    go_wp2
    go_ret2
    exact ⟨rfl, rfl⟩
  · have h6 : 255 < sz := by omega
    go_enter Tryd.func27, Tryd.ntmps27
    go_wp2
    go_ret2
    exact ⟨rfl, rfl⟩
theorem New_ok (kd vr sz : Nat) (w : World) (hk : kd ≤ 255) (hv : vr ≤ 255) (hlo : 2 ≤ sz) (hhi : sz ≤ 255) : Calls Tryd.prog 27 #[.int .i64 kd, .int .i64 vr, .int .i64 sz] w fun e w' => e = .returned (.tuple #[.pointer (some ⟨w.heap.size, 0, none⟩), .int .i64 0]) ∧ RF w.heap.size [w.heap.size] w' w.heap.size ⟨kd, vr, sz, 0, []⟩ ∧ Fr [] w w' := by
  have h1 : ¬ (kd : Int) < 0 := by omega
  have h2 : ¬ (255 : Int) < kd := by omega
  have h3 : ¬ (vr : Int) < 0 := by omega
  have h4 : ¬ (255 : Int) < vr := by omega
  have h5 : ¬ (sz : Int) < 2 := by omega
  have h6 : ¬ (255 : Int) < sz := by omega
  have HP : Hid (∀ w', w'.heap[w.heap.size]? = some (.cells #[.int .i64 kd, .int .i64 vr, .int .i64 sz, .slice none 0 0, .int .i64 0, .int .i64 0] 93) → RF w.heap.size [w.heap.size] w' w.heap.size ⟨kd, vr, sz, 0, []⟩) := Lib.hid fun w' h =>
    ⟨.slice none 0 0, [], ⟨h, LL.nil _ _, rfl, ⟨hk, hv, hlo, hhi, by simp, Sized.nil _, fun i h => absurd h (by simp)⟩, Nat.le_refl _⟩, rfl⟩
  clear hk hv hlo hhi
  go_enter Tryd.func27, Tryd.ntmps27
  go_wp2
  go_ret2
  exact ⟨rfl, HP.out _ (heap_alloc_new w _), (Fr.refl _ _).alloc _⟩
theorem Kind_F (B : Nat) (bs : List Nat) (w : World) (p : Nat) (s : RFS) (h : RF B bs w p s) : Calls Tryd.prog 33 #[.pointer (some ⟨p, 0, none⟩)] w fun e w' => e = .returned (.int .i64 s.kd) ∧ w = w' := by
  obtain ⟨v, X, h, -⟩ := h
  obtain ⟨x0, x1, x2, x3, x4, x5⟩ := six h.obj
  clear h
  go_enter Tryd.func33, Tryd.ntmps33
  go_wp2
  go_ret
  exact ⟨rfl, rfl⟩
theorem Version_F (B : Nat) (bs : List Nat) (w : World) (p : Nat) (s : RFS) (h : RF B bs w p s) : Calls Tryd.prog 35 #[.pointer (some ⟨p, 0, none⟩)] w fun e w' => e = .returned (.int .i64 s.vr) ∧ w = w' := by
  obtain ⟨v, X, h, -⟩ := h
  obtain ⟨x0, x1, x2, x3, x4, x5⟩ := six h.obj
  clear h
  go_enter Tryd.func35, Tryd.ntmps35
  go_wp2
  go_ret
  exact ⟨rfl, rfl⟩
theorem Size_F (B : Nat) (bs : List Nat) (w : World) (p : Nat) (s : RFS) (h : RF B bs w p s) : Calls Tryd.prog 34 #[.pointer (some ⟨p, 0, none⟩)] w fun e w' => e = .returned (.int .i64 s.sz) ∧ w = w' := by
  obtain ⟨v, X, h, -⟩ := h
  obtain ⟨x0, x1, x2, x3, x4, x5⟩ := six h.obj
  clear h
  go_enter Tryd.func34, Tryd.ntmps34
  go_wp2
  go_ret
  exact ⟨rfl, rfl⟩
theorem Count_F (B : Nat) (bs : List Nat) (w : World) (p : Nat) (s : RFS) (h : RF B bs w p s) : Calls Tryd.prog 36 #[.pointer (some ⟨p, 0, none⟩)] w fun e w' => e = .returned (.int .i64 s.R.length) ∧ w = w' := by
  obtain ⟨v, X, h, -⟩ := h
  obtain ⟨x0, x1, x2, x3, x4, x5⟩ := six h.obj
  obtain ⟨a, c, rfl, -⟩ := h.recs.sl
  rw [h.len] at x3
  clear h
  go_enter Tryd.func36, Tryd.ntmps36
  go_wp2
  go_ret
  exact ⟨rfl, rfl⟩
/-- is the record in use? -/
theorem neq_nil8 (w : World) (a : Option Addr) (n c n' c' : Nat) : (binOp .neq 37 (.slice a n c) (.slice none n' c')).run Tryd.prog w = .ok (.bool (!a.isNone)) w := run_neq_slice_nil_any w _ _ a n c n' c' Tryd.underlying37
theorem eql_nil8 (w : World) (a : Option Addr) (n c n' c' : Nat) : (binOp .eql 37 (.slice a n c) (.slice none n' c')).run Tryd.prog w = .ok (.bool a.isNone) w := Lib.run_eql_slice_nil w _ _ a n c n' c' Tryd.underlying37
set_option maxRecDepth 100000 in
theorem inUse_F (B : Nat) (bs : List Nat) (w : World) (p : Nat) (s : RFS) (id : Int) (h : RF B bs w p s) : Calls Tryd.prog 64 #[.pointer (some ⟨p, 0, none⟩), .int .i64 id] w fun e w' => e = .returned (.bool (usedR s.R id)) ∧ w = w' := by
  obtain ⟨v, X, h, -⟩ := h
  obtain ⟨x0, x1, x2, x3, x4, x5⟩ := six h.obj
  obtain ⟨a, c, rfl, -⟩ := h.recs.sl
  have hlen := h.len
  by_cases h1 : id < 0
  · have HU := Lib.hid (usedR_neg (R := s.R) h1)
    have h2 : ¬ 0 ≤ id := by omega
    clear h hlen h1
    go_enter Tryd.func64, Tryd.ntmps64
    go_wp2
    go_ret
    exact ⟨ret_bool HU.out.symm, rfl⟩
  · obtain ⟨k, rfl⟩ : ∃ k : Nat, id = k := ⟨id.toNat, by omega⟩
    have h2 : (0 : Int) ≤ (k : Int) := by omega
    by_cases h3 : k < X.length
    · have hk3 : (k : Int) < (X.length : Int) := by omega
      obtain ⟨g, rfl, -, -⟩ := h.recs.pos (by omega)
      obtain ⟨c1, -⟩ := h.recs.cell h3
      obtain ⟨x, hx⟩ : ∃ x, x = X[k] := ⟨_, rfl⟩
      rw [← hx] at c1
      have hm : x ∈ X := by rw [hx]; exact List.getElem_mem _
      have hU : usedR s.R k = x.o.isSome := by
        rw [usedR_nat, ← h.opt, List.getD_eq_getElem?_getD, List.getElem?_map, List.getElem?_eq_getElem h3, hx]
        rfl
      have HU := Lib.hid hU
      clear hU hlen h1
      cases ha : x.a with
      | none =>
        obtain rfl := h.recs.isNil hm ha
        replace c1 : w.cell? ⟨g, k, none⟩ = some (.slice none 0 0) := c1
        clear h hm ha hx
        have qN := neq_nil8
        go_enter Tryd.func64, Tryd.ntmps64
        go_wp2
        go_ret
        exact ⟨ret_bool HU.out.symm, rfl⟩
      | some ad =>
        have hs : x.o = some x.d := by unfold LI.o; rw [ha]
        replace c1 : w.cell? ⟨g, k, none⟩ = some (.slice (some ad) x.d.length x.c) := by rw [c1, LI.v, ha]
        rw [hs] at HU
        clear h hm ha hx hs
        have qN := neq_nil8
        go_enter Tryd.func64, Tryd.ntmps64
        go_wp2
        go_ret
        exact ⟨ret_bool HU.out.symm, rfl⟩
    · have hk3 : ¬ (k : Int) < (X.length : Int) := by omega
      have HU := Lib.hid (usedR_out (R := s.R) (id := k) (by rw [← hlen]; omega))
      clear h hlen h1
      go_enter Tryd.func64, Tryd.ntmps64
      go_wp2
      go_ret
      exact ⟨ret_bool HU.out.symm, rfl⟩
end Go.Proofs.YtlckhfjkdahfpaaDoor
