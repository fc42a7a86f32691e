/- Record files: a file in memory; New, what a file tells, Get. -/
import Derived.Test.YtkcipbjikimlfaaDoorRfA
import Derived.BigQuiet
namespace Go.Proofs.YtkcipbjikimlfaaDoor
open Go.RowKit
attribute [local go_sem ↓] Go.wp_at_zero Go.wp_at_succ
/-- a file's state -/
structure RFS where
  kd : Nat
  vr : Nat
  sz : Nat
  low : Nat
  R : Recs
structure RFS.Ok (s : RFS) : Prop where
  kd : s.kd ≤ 255
  vr : s.vr ≤ 255
  lo : 2 ≤ s.sz
  hi : s.sz ≤ 255
  len : s.R.length ≤ 65536
  dat : Sized s.sz s.R
  low : ∀ i, i < s.low → ∃ d, s.R[i]? = some (some d)
theorem RFS.Ok.low_le {s : RFS} (h : s.Ok) : s.low ≤ s.R.length := by
  by_cases h0 : s.low ≤ s.R.length
  · exact h0
  · obtain ⟨d, hd⟩ := h.low s.R.length (by omega)
    rw [List.getElem?_eq_none (Nat.le_refl _)] at hd
    cases hd
structure RFH (w : World) (B p : Nat) (v : Value) (X : List LI) (s : RFS) : Prop where
  obj : w.heap[p]? = some (.cells #[.int .i64 s.kd, .int .i64 s.vr, .int .i64 s.sz, v, .int .i64 (liveN s.R), .int .i64 s.low] 81)
  recs : LL w B v X
  opt : X.map LI.o = s.R
  ok : s.Ok
  base : B ≤ p
theorem RFH.len {w : World} {B p : Nat} {v : Value} {X : List LI} {s : RFS} (h : RFH w B p v X s) : X.length = s.R.length := by rw [← h.opt, List.length_map]
def rfB (p : Nat) (v : Value) (X : List LI) : List Nat := p :: llB v X
/-- a file in memory, in the blocks bs -/
def RF (B : Nat) (bs : List Nat) (w : World) (p : Nat) (s : RFS) : Prop := ∃ v X, RFH w B p v X s ∧ bs = rfB p v X
theorem RFH.lt {w : World} {B p : Nat} {v : Value} {X : List LI} {s : RFS} (h : RFH w B p v X s) : ∀ i ∈ rfB p v X, B ≤ i ∧ i < w.heap.size := by
  intro i hi
  rcases List.mem_cons.1 hi with rfl | hi
  · exact ⟨h.base, (Array.getElem?_eq_some_iff.1 h.obj).1⟩
  · exact h.recs.lt i hi
theorem RFH.fr {S : List Nat} {w w' : World} {B p : Nat} {v : Value} {X : List LI} {s : RFS} (h : RFH w B p v X s) (hf : Fr S w w') (hS : ∀ i ∈ rfB p v X, i ∉ S) : RFH w' B p v X s :=
  ⟨hf.obj h.obj (hS p List.mem_cons_self), h.recs.fr hf fun i hi => hS i (List.mem_cons_of_mem _ hi), h.opt, h.ok, h.base⟩
theorem RFH.keep {w w' : World} {B p : Nat} {v : Value} {X : List LI} {s : RFS} (h : RFH w B p v X s) (hf : Fr [] w w') : RFH w' B p v X s := h.fr hf (by simp)
theorem RF.lt {B p : Nat} {bs : List Nat} {w : World} {s : RFS} (h : RF B bs w p s) : ∀ i ∈ bs, B ≤ i ∧ i < w.heap.size := by
  obtain ⟨v, X, h, rfl⟩ := h
  exact h.lt
theorem RF.fr {S : List Nat} {B p : Nat} {bs : List Nat} {w w' : World} {s : RFS} (h : RF B bs w p s) (hf : Fr S w w') (hS : ∀ i ∈ bs, i ∉ S) : RF B bs w' p s := by
  obtain ⟨v, X, h, rfl⟩ := h
  exact ⟨v, X, h.fr hf hS, rfl⟩
theorem RF.keep {B p : Nat} {bs : List Nat} {w w' : World} {s : RFS} (h : RF B bs w p s) (hf : Fr [] w w') : RF B bs w' p s := h.fr hf (by simp)
theorem RF.ok {B p : Nat} {bs : List Nat} {w : World} {s : RFS} (h : RF B bs w p s) : s.Ok := by
  obtain ⟨v, X, h, _⟩ := h
  exact h.ok
/-- what belongs to it turns, and new blocks may become its own -/
def Stp (bs : List Nat) (w : World) (bs' : List Nat) (w' : World) : Prop := Fr bs w w' ∧ ∀ i ∈ bs', i ∈ bs ∨ w.heap.size ≤ i
theorem Stp.refl (bs : List Nat) (w : World) : Stp bs w bs w := ⟨Fr.refl _ _, fun _ h => .inl h⟩
theorem Stp.trans {bs bs' bs'' : List Nat} {w w' w'' : World} (h : Stp bs w bs' w') (k : Stp bs' w' bs'' w'') : Stp bs w bs'' w'' := by
  refine ⟨h.1.next k.1 fun i hi hlt => ?_, fun i hi => ?_⟩
  · rcases h.2 i hi with h | h
    · exact h
    · omega
  · rcases k.2 i hi with h1 | h1
    · exact h.2 i h1
    · exact .inr (Nat.le_trans h.1.size h1)
theorem Stp.keepR {bs bs' : List Nat} {w w' w'' : World} (h : Stp bs w bs' w') (k : Fr [] w' w'') : Stp bs w bs' w'' := ⟨h.1.trans (k.mono (by simp)), h.2⟩
theorem Stp.keepL {bs bs' : List Nat} {w w' w'' : World} (k : Fr [] w w') (h : Stp bs w' bs' w'') : Stp bs w bs' w'' := ⟨(k.mono (by simp)).trans h.1, fun i hi => (h.2 i hi).imp id (Nat.le_trans k.size)⟩
/-- two that lie apart go on lying apart -/
theorem Stp.apart {bs bs' cs : List Nat} {w w' : World} (h : Stp bs w bs' w') (ha : ∀ i ∈ bs, i ∉ cs) (hc : ∀ i ∈ cs, i < w.heap.size) : ∀ i ∈ bs', i ∉ cs := fun i hi hm => by
  rcases h.2 i hi with h1 | h1
  · exact ha i h1 hm
  · have := hc i hm; omega
theorem Stp.apart' {bs bs' cs : List Nat} {w w' : World} (h : Stp bs w bs' w') (ha : ∀ i ∈ cs, i ∉ bs) (hc : ∀ i ∈ cs, i < w.heap.size) : ∀ i ∈ cs, i ∉ bs' := fun i hi hm => h.apart (fun j hj hk => ha j hk hj) hc i hm hi
theorem six {w : World} {b T : Nat} {c0 c1 c2 c3 c4 c5 : Value} (h : w.heap[b]? = some (.cells #[c0, c1, c2, c3, c4, c5] T)) : w.cell? ⟨b, 0, none⟩ = some c0 ∧ w.cell? ⟨b, 1, none⟩ = some c1 ∧ w.cell? ⟨b, 2, none⟩ = some c2 ∧ w.cell? ⟨b, 3, none⟩ = some c3 ∧ w.cell? ⟨b, 4, none⟩ = some c4 ∧ w.cell? ⟨b, 5, none⟩ = some c5 :=
  ⟨cell_of_row _ _ 0 _ _ _ h, cell_of_row _ _ 1 _ _ _ h, cell_of_row _ _ 2 _ _ _ h, cell_of_row _ _ 3 _ _ _ h, cell_of_row _ _ 4 _ _ _ h, cell_of_row _ _ 5 _ _ _ h⟩
theorem New_arg (kd vr sz : Int) (w : World) (hb : kd < 0 ∨ 255 < kd ∨ vr < 0 ∨ 255 < vr) : Calls Tryd.prog 29 #[.int .i64 kd, .int .i64 vr, .int .i64 sz] w fun e w' => e = .returned (.tuple #[.pointer none, .int .i64 2]) ∧ w = w' := by
  by_cases h1 : kd < 0
  · go_enter Tryd.func29, Tryd.ntmps29
    go_wp2
    go_ret2
    exact ⟨rfl, rfl⟩
  · by_cases h2 : 255 < kd
    · go_enter Tryd.func29, Tryd.ntmps29
      go_wp2
      go_ret2
      exact ⟨rfl, rfl⟩
    · by_cases h3 : vr < 0
      · go_enter Tryd.func29, Tryd.ntmps29
        go_wp2
        go_ret2
        exact ⟨rfl, rfl⟩
      · have h4 : 255 < vr := by omega
        go_enter Tryd.func29, Tryd.ntmps29
        go_wp2
        go_ret2
        exact ⟨rfl, rfl⟩
theorem New_size (kd vr sz : Int) (w : World) (hb : ¬ (kd < 0 ∨ 255 < kd ∨ vr < 0 ∨ 255 < vr)) (hz : sz < 2 ∨ 255 < sz) : Calls Tryd.prog 29 #[.int .i64 kd, .int .i64 vr, .int .i64 sz] w fun e w' => e = .returned (.tuple #[.pointer none, .int .i64 4]) ∧ w = w' := by
  have h1 : ¬ kd < 0 := by omega
  have h2 : ¬ 255 < kd := by omega
  have h3 : ¬ vr < 0 := by omega
  have h4 : ¬ 255 < vr := by omega
  by_cases h5 : sz < 2
  · go_enter Tryd.func29, Tryd.ntmps29
    go_wp2
    go_ret2
    exact ⟨rfl, rfl⟩
  · have h6 : 255 < sz := by omega
    go_enter Tryd.func29, Tryd.ntmps29
    go_wp2
    go_ret2
    exact ⟨rfl, rfl⟩
theorem New_ok (kd vr sz : Nat) (w : World) (hk : kd ≤ 255) (hv : vr ≤ 255) (hlo : 2 ≤ sz) (hhi : sz ≤ 255) : Calls Tryd.prog 29 #[.int .i64 kd, .int .i64 vr, .int .i64 sz] w fun e w' => e = .returned (.tuple #[.pointer (some ⟨w.heap.size, 0, none⟩), .int .i64 0]) ∧ RF w.heap.size [w.heap.size] w' w.heap.size ⟨kd, vr, sz, 0, []⟩ ∧ Fr [] w w' := by
  have h1 : ¬ (kd : Int) < 0 := by omega
  have h2 : ¬ (255 : Int) < kd := by omega
  have h3 : ¬ (vr : Int) < 0 := by omega
  have h4 : ¬ (255 : Int) < vr := by omega
  have h5 : ¬ (sz : Int) < 2 := by omega
  have h6 : ¬ (255 : Int) < sz := by omega
  have HP : Hid (∀ w', w'.heap[w.heap.size]? = some (.cells #[.int .i64 kd, .int .i64 vr, .int .i64 sz, .slice none 0 0, .int .i64 0, .int .i64 0] 81) → RF w.heap.size [w.heap.size] w' w.heap.size ⟨kd, vr, sz, 0, []⟩) := Lib.hid fun w' h =>
    ⟨.slice none 0 0, [], ⟨h, LL.nil _ _, rfl, ⟨hk, hv, hlo, hhi, by simp, Sized.nil _, fun i h => absurd h (by simp)⟩, Nat.le_refl _⟩, rfl⟩
  clear hk hv hlo hhi
  go_enter Tryd.func29, Tryd.ntmps29
  go_wp2
  go_ret2
  exact ⟨rfl, HP.out _ (heap_alloc_new w _), (Fr.refl _ _).alloc _⟩
theorem Size_F (B : Nat) (bs : List Nat) (w : World) (p : Nat) (s : RFS) (h : RF B bs w p s) : Calls Tryd.prog 32 #[.pointer (some ⟨p, 0, none⟩)] w fun e w' => e = .returned (.int .i64 s.sz) ∧ w = w' := by
  obtain ⟨v, X, h, -⟩ := h
  obtain ⟨x0, x1, x2, x3, x4, x5⟩ := six h.obj
  clear h
  go_enter Tryd.func32, Tryd.ntmps32
  go_wp2
  go_ret
  exact ⟨rfl, rfl⟩
theorem Live_F (B : Nat) (bs : List Nat) (w : World) (p : Nat) (s : RFS) (h : RF B bs w p s) : Calls Tryd.prog 14 #[.pointer (some ⟨p, 0, none⟩)] w fun e w' => e = .returned (.int .i64 (liveN s.R)) ∧ w = w' := by
  obtain ⟨v, X, h, -⟩ := h
  obtain ⟨x0, x1, x2, x3, x4, x5⟩ := six h.obj
  clear h
  go_enter Tryd.func14, Tryd.ntmps14
  go_wp2
  go_ret
  exact ⟨rfl, rfl⟩
theorem Count_F (B : Nat) (bs : List Nat) (w : World) (p : Nat) (s : RFS) (h : RF B bs w p s) : Calls Tryd.prog 27 #[.pointer (some ⟨p, 0, none⟩)] w fun e w' => e = .returned (.int .i64 s.R.length) ∧ w = w' := by
  obtain ⟨v, X, h, -⟩ := h
  obtain ⟨x0, x1, x2, x3, x4, x5⟩ := six h.obj
  obtain ⟨a, c, rfl, -⟩ := h.recs.sl
  rw [h.len] at x3
  clear h
  go_enter Tryd.func27, Tryd.ntmps27
  go_wp2
  go_ret
  exact ⟨rfl, rfl⟩
/-- is the record in use? -/
theorem neq_nil8 (w : World) (a : Option Addr) (n c n' c' : Nat) : (binOp .neq 22 (.slice a n c) (.slice none n' c')).run Tryd.prog w = .ok (.bool (!a.isNone)) w := run_neq_slice_nil_any w _ _ a n c n' c' Tryd.underlying22
theorem eql_nil8 (w : World) (a : Option Addr) (n c n' c' : Nat) : (binOp .eql 22 (.slice a n c) (.slice none n' c')).run Tryd.prog w = .ok (.bool a.isNone) w := Lib.run_eql_slice_nil w _ _ a n c n' c' Tryd.underlying22
set_option maxRecDepth 100000 in
theorem inUse_F (B : Nat) (bs : List Nat) (w : World) (p : Nat) (s : RFS) (id : Int) (h : RF B bs w p s) : Calls Tryd.prog 66 #[.pointer (some ⟨p, 0, none⟩), .int .i64 id] w fun e w' => e = .returned (.bool (usedR s.R id)) ∧ w = w' := by
  obtain ⟨v, X, h, -⟩ := h
  obtain ⟨x0, x1, x2, x3, x4, x5⟩ := six h.obj
  obtain ⟨a, c, rfl, -⟩ := h.recs.sl
  have hlen := h.len
  by_cases h1 : id < 0
  · have HU := Lib.hid (usedR_neg (R := s.R) h1)
    have h2 : ¬ 0 ≤ id := by omega
    clear h hlen h1
    go_enter Tryd.func66, Tryd.ntmps66
    go_wp2
    go_ret
    exact ⟨ret_bool HU.out.symm, rfl⟩
  · obtain ⟨k, rfl⟩ : ∃ k : Nat, id = k := ⟨id.toNat, by omega⟩
    have h2 : (0 : Int) ≤ (k : Int) := by omega
    by_cases h3 : k < X.length
    · have hk3 : (k : Int) < (X.length : Int) := by omega
      obtain ⟨g, rfl, -, -⟩ := h.recs.pos (by omega)
      obtain ⟨c1, -⟩ := h.recs.cell h3
      obtain ⟨x, hx⟩ : ∃ x, x = X[k] := ⟨_, rfl⟩
      rw [← hx] at c1
      have hm : x ∈ X := by rw [hx]; exact List.getElem_mem _
      have hU : usedR s.R k = x.o.isSome := by
        rw [usedR_nat, ← h.opt, List.getD_eq_getElem?_getD, List.getElem?_map, List.getElem?_eq_getElem h3, hx]
        rfl
      have HU := Lib.hid hU
      clear hU hlen h1
      cases ha : x.a with
      | none =>
        obtain rfl := h.recs.isNil hm ha
        replace c1 : w.cell? ⟨g, k, none⟩ = some (.slice none 0 0) := c1
        clear h hm ha hx
        have qN := neq_nil8
        go_enter Tryd.func66, Tryd.ntmps66
        go_wp2
        go_ret
        exact ⟨ret_bool HU.out.symm, rfl⟩
      | some ad =>
        have hs : x.o = some x.d := by unfold LI.o; rw [ha]
        replace c1 : w.cell? ⟨g, k, none⟩ = some (.slice (some ad) x.d.length x.c) := by rw [c1, LI.v, ha]
        rw [hs] at HU
        clear h hm ha hx hs
        have qN := neq_nil8
        go_enter Tryd.func66, Tryd.ntmps66
        go_wp2
        go_ret
        exact ⟨ret_bool HU.out.symm, rfl⟩
    · have hk3 : ¬ (k : Int) < (X.length : Int) := by omega
      have HU := Lib.hid (usedR_out (R := s.R) (id := k) (by rw [← hlen]; omega))
      clear h hlen h1
      go_enter Tryd.func66, Tryd.ntmps66
      go_wp2
      go_ret
      exact ⟨ret_bool HU.out.symm, rfl⟩
end Go.Proofs.YtkcipbjikimlfaaDoor
