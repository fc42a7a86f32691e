/- Frames: a Reader in use; NewReader, Rest, Err, Next. -/
import Derived.Test.YtkgfdcagninphaaDoorFrG
import Derived.Test.YtkgfdcagninphaaDoorOff
namespace Go.Proofs.YtkgfdcagninphaaDoor
open Go.RowKit
attribute [local go_sem ↓] Go.wp_at_zero Go.wp_at_succ
/-- a list of frames of the call's own, at an offset -/
structure FrO (w : World) (B : Nat) (v : Value) (X : List FI) : Prop where
  row : OwnO w B 25 2 v X.length (fiCells X)
  dat : ∀ x ∈ X, w.ownsRow B 5 1 x.v x.d.length (x.d.map B8)
  dis : X.Pairwise fun x y => ∀ g, x.v.ownBlock = some g → y.v.ownBlock ≠ some g
  off : ∀ x ∈ X, ∀ g, x.v.ownBlock = some g → v.ownBlock ≠ some g
theorem FrO.of {w : World} {B : Nat} {v : Value} {X : List FI} (h : FrL w B v X) : FrO w B v X := ⟨.of h.row, h.dat, h.dis, h.off⟩
theorem FrO.nil (w : World) (B : Nat) : FrO w B (.slice none 0 0) [] := .of (FrL.nil w B)
theorem FrO.fr {S : List Nat} {w w' : World} {B : Nat} {v : Value} {X : List FI} (h : FrO w B v X) (hf : Fr S w w') (h1 : ∀ g, v.ownBlock = some g → g ∉ S) (h2 : ∀ x ∈ X, ∀ g, x.v.ownBlock = some g → g ∉ S) : FrO w' B v X :=
  ⟨h.row.fr hf h1, fun x hx => own_fr (h.dat x hx) hf (h2 x hx), h.dis, h.off⟩
theorem FrO.lt {w : World} {B : Nat} {v : Value} {X : List FI} (h : FrO w B v X) : (∀ g, v.ownBlock = some g → B ≤ g ∧ g < w.heap.size) ∧ (∀ y ∈ X, ∀ g, y.v.ownBlock = some g → B ≤ g ∧ g < w.heap.size) :=
  ⟨fun _ hg => h.row.lt hg, fun y hy _ hg => own_lt (h.dat y hy) hg⟩
theorem FrO.app {w w' : World} {B N : Nat} {v v' : Value} {X : List FI} {x : FI} (h : FrO w B v X) (hva : ∀ g, v.ownBlock = some g → g < N) (hX : ∀ y ∈ X, ∀ g, y.v.ownBlock = some g → g < N) (hx : w.ownsRow N 5 1 x.v x.d.length (x.d.map B8)) (hB : B ≤ N) (ha : AppO w w' B 25 2 v v' X.length 1 (fiCells X) [.int .i64 (I8 x.t), x.v]) : FrO w' B v' (X ++ [x]) := by
  have hxa : ∀ g, x.v.ownBlock = some g → N ≤ g ∧ g < w.heap.size := fun g hg => own_lt hx hg
  have hoff : ∀ g, x.v.ownBlock = some g → v.ownBlock ≠ some g := fun g hg e => by have := hva g e; have := hxa g hg; omega
  have hnew : ∀ y : FI, (∀ g, y.v.ownBlock = some g → g < w.heap.size) → (∀ g, y.v.ownBlock = some g → v.ownBlock ≠ some g) → ∀ g, y.v.ownBlock = some g → v'.ownBlock ≠ some g := by
    intro y h1 h2 g hg e
    rcases ha.blk with hb | ⟨g', hb, hlt⟩
    · exact h2 g hg (hb.symm.trans e)
    · rw [hb] at e
      have := Option.some.inj e
      have := h1 g hg
      omega
  refine ⟨?_, fun y hy => ?_, ?_, fun y hy => ?_⟩
  · rw [fiCells_snoc, List.length_append]
    exact ha.own
  · rcases List.mem_append.1 hy with hy | hy
    · exact own_fr (h.dat y hy) ha.fr (fun g hg hm => h.off y hy g hg (by simpa using hm))
    · obtain rfl : y = x := by simpa using hy
      exact own_base (own_fr hx ha.fr (fun g hg hm => hoff g hg (by simpa using hm))) hB
  · rw [List.pairwise_append]
    refine ⟨h.dis, by simp, fun y hy z hz => ?_⟩
    obtain rfl : z = x := by simpa using hz
    intro g hg e
    have h1 := hX y hy g hg
    have h2 := (hxa g e).1
    omega
  · rcases List.mem_append.1 hy with hy | hy
    · exact hnew y (fun g hg => (own_lt (h.dat y hy) hg).2) (fun g hg => h.off y hy g hg)
    · obtain rfl : y = x := by simpa using hy
      exact hnew y (fun g hg => (hxa g hg).2) hoff
/-- a Reader in use -/
structure RdS (w : World) (B p : Nat) (u v : Value) (l : List UInt8) (X : List FI) (e : Int) : Prop where
  obj : w.heap[p]? = some (.cells #[u, v, .int .i64 e] 75)
  rest : OwnO w B 5 1 u l.length (l.map B8)
  ready : FrO w B v X
  sep : ∀ x ∈ X, ∀ g, x.v.ownBlock = some g → u.ownBlock ≠ some g
theorem RdS.fr {S : List Nat} {w w' : World} {B p : Nat} {u v : Value} {l : List UInt8} {X : List FI} {e : Int} (h : RdS w B p u v l X e) (hf : Fr S w w') (hp : p ∉ S) (hu : ∀ g, u.ownBlock = some g → g ∉ S) (hv : ∀ g, v.ownBlock = some g → g ∉ S) (hX : ∀ x ∈ X, ∀ g, x.v.ownBlock = some g → g ∉ S) : RdS w' B p u v l X e :=
  ⟨hf.obj h.obj hp, h.rest.fr hf hu, h.ready.fr hf hv hX, h.sep⟩
theorem RdS.keep {w w' : World} {B p : Nat} {u v : Value} {l : List UInt8} {X : List FI} {e : Int} (h : RdS w B p u v l X e) (hf : Fr [] w w') : RdS w' B p u v l X e := h.fr hf (by simp) (by simp) (by simp) (by simp)
theorem trio {w : World} {b T : Nat} {c0 c1 c2 : Value} (h : w.heap[b]? = some (.cells #[c0, c1, c2] T)) : w.cell? ⟨b, 0, none⟩ = some c0 ∧ w.cell? ⟨b, 1, none⟩ = some c1 ∧ w.cell? ⟨b, 2, none⟩ = some c2 :=
  ⟨cell_of_row _ _ 0 _ _ _ h, cell_of_row _ _ 1 _ _ _ h, cell_of_row _ _ 2 _ _ _ h⟩
theorem trio_fz {w : World} {b T : Nat} {c0 c1 c2 : Value} (h : w.heap[b]? = some (.cells #[c0, c1, c2] T)) : w.frozen? ⟨b, 0, none⟩ = false ∧ w.frozen? ⟨b, 1, none⟩ = false ∧ w.frozen? ⟨b, 2, none⟩ = false :=
  ⟨frozen_of_row _ _ 0 _ _ h, frozen_of_row _ _ 1 _ _ h, frozen_of_row _ _ 2 _ _ h⟩
theorem NewReader_F (w : World) : Calls Tryd.prog 22 #[] w fun e w' => ∃ p, e = .returned (.pointer (some ⟨p, 0, none⟩)) ∧ RdS w' w.heap.size p (.slice none 0 0) (.slice none 0 0) [] [] 0 ∧ w.heap.size ≤ p ∧ p < w'.heap.size ∧ Fr [] w w' := by
  go_enter Tryd.func22, Tryd.ntmps22
  go_wp2
  go_ret
  exact ⟨w.heap.size, rfl, ⟨heap_alloc_new w _, .nil _ _ _ _, .nil _ _, fun _ h => (List.not_mem_nil h).elim⟩, Nat.le_refl _, by simp, (Fr.refl _ _).alloc _⟩
theorem Rest_F (B p : Nat) (u v : Value) (l : List UInt8) (X : List FI) (e : Int) (w : World) (h : RdS w B p u v l X e) : Calls Tryd.prog 24 #[.pointer (some ⟨p, 0, none⟩)] w fun x w' => x = .returned (.int .i64 l.length) ∧ w = w' := by
  obtain ⟨a, c, rfl, _⟩ := h.rest.sl
  obtain ⟨x0, -, -⟩ := trio h.obj
  clear h
  go_enter Tryd.func24, Tryd.ntmps24
  go_wp2
  go_ret
  exact ⟨rfl, rfl⟩
theorem Err_F (B p : Nat) (u v : Value) (l : List UInt8) (X : List FI) (e : Int) (w : World) (h : RdS w B p u v l X e) : Calls Tryd.prog 26 #[.pointer (some ⟨p, 0, none⟩)] w fun x w' => x = .returned (.int .i64 e) ∧ w = w' := by
  obtain ⟨-, -, x0⟩ := trio h.obj
  clear h
  go_enter Tryd.func26, Tryd.ntmps26
  go_wp2
  go_ret
  exact ⟨rfl, rfl⟩
set_option maxRecDepth 100000 in
theorem Next_none (B p : Nat) (u v : Value) (l : List UInt8) (e : Int) (w : World) (h : RdS w B p u v l [] e) : Calls Tryd.prog 25 #[.pointer (some ⟨p, 0, none⟩)] w fun x w' => x = .returned (.tuple #[.agg #[.int .i64 0, .slice none 0 0], .bool false]) ∧ Fr [] w w' := by
  obtain ⟨a, c, rfl, _⟩ := h.ready.row.sl
  obtain ⟨wz, hwz⟩ : ∃ wz, wz = w.alloc (.cells #[.int .i64 0, .slice none 0 0] 25) := ⟨_, rfl⟩
  have HFZ := Lib.hid (show Fr [] w wz by rw [hwz]; exact (Fr.refl _ _).alloc _)
  have hbz : wz.heap[w.heap.size]? = some (.cells #[.int .i64 0, .slice none 0 0] 25) := by rw [hwz]; exact heap_alloc_new w _
  obtain ⟨-, x1, -⟩ := trio (HFZ.out.obj h.obj (by simp))
  obtain ⟨y0, y1⟩ := duo hbz
  obtain ⟨f0, f1⟩ := duo_fz hbz
  have HBZ := Lib.hid hbz
  have HWZ := Lib.hid hwz
  clear h hbz hwz
  simp only [List.length_nil] at x1
  go_enter Tryd.func25, Tryd.ntmps25
  go_upto_region 1 with fail
  rw [← HWZ.out]
  clear HWZ
  go_wp2
  refine bodyPost_ret (v := .tuple #[.agg #[.int .i64 0, .slice none 0 0], .bool false]) ?_ rfl ⟨rfl, Fr.setCells (by simp) [.int .i64 0, .slice none 0 0] 0 _ HFZ.out⟩
  exact results_row rfl _ _ w.heap.size 25 _ _ _ rfl rfl (obj_setCells HBZ.out [.int .i64 0, .slice none 0 0] rfl) Tryd.underlying25 rfl infoFr
theorem fiCells_cons (x : FI) (X : List FI) : fiCells (x :: X) = .int .i64 (I8 x.t) :: x.v :: fiCells X := by unfold fiCells; rw [List.flatMap_cons]; rfl
/-- the first frame of a list goes out -/
theorem FrO.tail {w : World} {B n c : Nat} {a : Option Addr} {x : FI} {X : List FI} (h : FrO w B (.slice a n c) (x :: X)) (v' : Value) (hn : n = X.length + 1)
    (hv : (c - 1 = 0 ∧ v' = .slice a X.length (c - 1)) ∨ (c - 1 ≠ 0 ∧ ∃ ad, a = some ad ∧ v' = .slice (some (ad.add 2)) X.length (c - 1))) : FrO w B v' X ∧ ∀ g, v'.ownBlock = some g → (Value.slice a n c).ownBlock = some g := by
  subst hn
  refine ⟨⟨?_, fun y hy => h.dat y (List.mem_cons_of_mem _ hy), (List.pairwise_cons.1 h.dis).2, ?_⟩, ?_⟩
  · have := h.row.cut 1 (by simp) (by decide) v' (by rw [Nat.add_sub_cancel, Nat.one_mul]; exact hv)
    rw [fiCells_cons] at this
    simpa using this
  · intro y hy g hg e
    have := h.off y (List.mem_cons_of_mem _ hy) g hg
    rcases hv with ⟨_, rfl⟩ | ⟨_, ad, rfl, rfl⟩
    · exact this (by cases a <;> exact e)
    · apply this
      simp only [Value.ownBlock, Option.some.injEq] at e ⊢
      rw [← e]
      unfold Addr.add
      split <;> rfl
  · intro g e
    rcases hv with ⟨_, rfl⟩ | ⟨_, ad, rfl, rfl⟩
    · cases a <;> exact e
    · simp only [Value.ownBlock, Option.some.injEq] at e ⊢
      rw [← e]
      unfold Addr.add
      split <;> rfl
theorem next_done {w wz : World} {B p : Nat} {u v v' : Value} {l : List UInt8} {x : FI} {X : List FI} {e : Int} (h : RdS w B p u v l (x :: X) e) (hfz : Fr [] w wz) (hbz : wz.heap[w.heap.size]? = some (.cells #[.int .i64 0, .slice none 0 0] 25)) (ht : FrO w B v' X) (hb : ∀ g, v'.ownBlock = some g → v.ownBlock = some g) (o : Obj) :
    ((((wz.setCell ⟨p, 1, none⟩ v').setCell ⟨w.heap.size, 0, none⟩ (.int .i64 (I8 x.t))).setCell ⟨w.heap.size, 1, none⟩ (.slice x.a x.d.length x.c)).alloc o).heap[w.heap.size]? = some (.cells #[.int .i64 (I8 x.t), x.v] 25) ∧
    RdS ((((wz.setCell ⟨p, 1, none⟩ v').setCell ⟨w.heap.size, 0, none⟩ (.int .i64 (I8 x.t))).setCell ⟨w.heap.size, 1, none⟩ (.slice x.a x.d.length x.c)).alloc o) B p u v' l X e ∧
    ((((wz.setCell ⟨p, 1, none⟩ v').setCell ⟨w.heap.size, 0, none⟩ (.int .i64 (I8 x.t))).setCell ⟨w.heap.size, 1, none⟩ (.slice x.a x.d.length x.c)).alloc o).ownsRow B 5 1 x.v x.d.length (x.d.map B8) ∧
    Fr [p] w ((((wz.setCell ⟨p, 1, none⟩ v').setCell ⟨w.heap.size, 0, none⟩ (.int .i64 (I8 x.t))).setCell ⟨w.heap.size, 1, none⟩ (.slice x.a x.d.length x.c)).alloc o) := by
  have hpl : p < w.heap.size := (Array.getElem?_eq_some_iff.1 h.obj).1
  have h1 : (wz.setCell ⟨p, 1, none⟩ v').heap[p]? = some (.cells #[u, v', .int .i64 e] 75) := by rw [heap_setCell_same wz p 1 _ _ _ (hfz.obj h.obj (by simp))]; rfl
  have hf1 : Fr [p] w (wz.setCell ⟨p, 1, none⟩ v') := (hfz.mono (by simp)).setCell (by simp) _
  have hf2 : Fr [w.heap.size] (wz.setCell ⟨p, 1, none⟩ v') ((((wz.setCell ⟨p, 1, none⟩ v').setCell ⟨w.heap.size, 0, none⟩ (.int .i64 (I8 x.t))).setCell ⟨w.heap.size, 1, none⟩ (.slice x.a x.d.length x.c)).alloc o) := (((Fr.refl [w.heap.size] _).setCell (by simp) _).setCell (by simp) _).alloc _
  have hf3 : Fr [p] w ((((wz.setCell ⟨p, 1, none⟩ v').setCell ⟨w.heap.size, 0, none⟩ (.int .i64 (I8 x.t))).setCell ⟨w.heap.size, 1, none⟩ (.slice x.a x.d.length x.c)).alloc o) := ((hf1.setCell (by simp) _).setCell (by simp) _).alloc _
  have hb1 : (wz.setCell ⟨p, 1, none⟩ v').heap[w.heap.size]? = some (.cells #[.int .i64 0, .slice none 0 0] 25) := ((Fr.refl [p] wz).setCell (by simp) _).obj hbz (by simp; omega)
  refine ⟨?_, ⟨hf2.obj h1 (by simp; omega), ?_, ?_, fun y hy => h.sep y (List.mem_cons_of_mem _ hy)⟩, ?_, hf3⟩
  · refine ((Fr.refl [] _).alloc _).obj ?_ (by simp)
    rw [heap_setCell_same _ _ 1 _ _ _ (heap_setCell_same _ _ 0 _ _ _ hb1)]
    rfl
  · exact h.rest.fr hf3 (fun g hg hm => h.rest.ty h.obj (by decide) (by rw [hg]; simpa using hm))
  · exact ht.fr hf3 (fun g hg hm => h.ready.row.ty h.obj (by decide) (by rw [hb g hg]; simpa using hm)) (fun y hy g hg hm => own_ty (ht.dat y hy) h.obj (by decide) (by rw [hg]; simpa using hm))
  · exact own_fr (h.ready.dat x List.mem_cons_self) hf3 (fun g hg hm => own_ty (h.ready.dat x List.mem_cons_self) h.obj (by decide) (by rw [hg]; simpa using hm))
set_option maxRecDepth 100000 in
set_option maxHeartbeats 1600000 in
theorem Next_some (B p : Nat) (u v : Value) (l : List UInt8) (x : FI) (X : List FI) (e : Int) (w : World) (h : RdS w B p u v l (x :: X) e) : Calls Tryd.prog 25 #[.pointer (some ⟨p, 0, none⟩)] w fun y w' => y = .returned (.tuple #[.agg #[.int .i64 (I8 x.t), x.v], .bool true]) ∧
    ∃ v', RdS w' B p u v' l X e ∧ (∀ g, v'.ownBlock = some g → v.ownBlock = some g) ∧ w'.ownsRow B 5 1 x.v x.d.length (x.d.map B8) ∧ Fr [p] w w' := by
  obtain ⟨a, c, rfl, hnc, hno⟩ := h.ready.row.sl
  cases a with
  | none => have := hno rfl; simp at hnc; omega
  | some ad =>
  obtain ⟨wz, hwz⟩ : ∃ wz, wz = w.alloc (.cells #[.int .i64 0, .slice none 0 0] 25) := ⟨_, rfl⟩
  have hfz : Fr [] w wz := by rw [hwz]; exact (Fr.refl _ _).alloc _
  have hbz : wz.heap[w.heap.size]? = some (.cells #[.int .i64 0, .slice none 0 0] 25) := by rw [hwz]; exact heap_alloc_new w _
  have hz := h.keep hfz
  obtain ⟨c0, ea, -⟩ := hz.ready.row.cell 0 (by rw [fiCells_cons]; simp)
  obtain ⟨c1, -, -⟩ := hz.ready.row.cell 1 (by rw [fiCells_cons]; simp)
  obtain ⟨b, o, rfl⟩ : ∃ b o, ad = ⟨b, o, none⟩ := ⟨_, _, ea⟩
  rw [fiCells_cons] at c0 c1
  simp only [Nat.add_zero, List.getElem?_cons_zero, List.getElem?_cons_succ] at c0 c1
  obtain ⟨x0, x1, x2⟩ := trio hz.obj
  obtain ⟨z0, z1, z2⟩ := trio_fz hz.obj
  obtain ⟨y0, y1⟩ := duo hbz
  obtain ⟨f0, f1⟩ := duo_fz hbz
  have hpl : p < w.heap.size := (Array.getElem?_eq_some_iff.1 h.obj).1
  have hzl : w.heap.size < wz.heap.size := (Array.getElem?_eq_some_iff.1 hbz).1
  have hpz : p < wz.heap.size := by omega
  have HBZ := Lib.hid hbz
  have HWZ := Lib.hid hwz
  have HFZ := Lib.hid hfz
  have H0 := Lib.hid h
  clear hz h hbz hwz hfz ea
  replace c1 : wz.cell? ⟨b, o + 1, none⟩ = some (.slice x.a x.d.length x.c) := c1
  simp only [List.length_cons] at x1 hnc
  have hlen : (0 : Int) < ((X.length : Int) + 1) := by omega
  have hl0 : 0 < X.length + 1 := by omega
  have hci : (1 : Int) ≤ (X.length : Int) + 1 := by omega
  by_cases hc1 : c = 1
  · subst hc1
    have hX0 : X.length = 0 := by omega
    obtain ⟨ht, hb⟩ := H0.out.ready.tail (.slice (some ⟨b, o, none⟩) 0 0) rfl (.inl ⟨rfl, by rw [hX0]⟩)
    have HT := Lib.hid ht
    have HBL := Lib.hid hb
    clear ht hb
    go_enter Tryd.func25, Tryd.ntmps25
    go_upto_region 1 with fail
    rw [← HWZ.out]
    clear HWZ
    go_wp2_with fail
    obtain ⟨r1, r2, r3, r4⟩ := next_done H0.out HFZ.out HBZ.out HT.out HBL.out (.cells #[.int .i64 (I8 x.t), .slice x.a x.d.length x.c] 25)
    refine bodyPost_ret (v := .tuple #[.agg #[.int .i64 (I8 x.t), x.v], .bool true]) ?_ rfl ⟨rfl, _, r2, HBL.out, r3, r4⟩
    exact results_row rfl _ _ w.heap.size 25 _ _ _ rfl rfl r1 Tryd.underlying25 rfl infoFr
  · obtain ⟨ht, hb⟩ := H0.out.ready.tail (.slice (some ⟨b, o + 2, none⟩) X.length (c - 1)) rfl (.inr ⟨by omega, _, rfl, by rw [Addr.add_mid]⟩)
    have HT := Lib.hid ht
    have HBL := Lib.hid hb
    clear ht hb
    go_enter Tryd.func25, Tryd.ntmps25
    go_upto_region 1 with fail
    rw [← HWZ.out]
    clear HWZ
    go_wp2_with fail
    obtain ⟨r1, r2, r3, r4⟩ := next_done H0.out HFZ.out HBZ.out HT.out HBL.out (.cells #[.int .i64 (I8 x.t), .slice x.a x.d.length x.c] 25)
    refine bodyPost_ret (v := .tuple #[.agg #[.int .i64 (I8 x.t), x.v], .bool true]) ?_ rfl ⟨rfl, _, r2, HBL.out, r3, r4⟩
    exact results_row rfl _ _ w.heap.size 25 _ _ _ rfl rfl r1 Tryd.underlying25 rfl infoFr
end Go.Proofs.YtkgfdcagninphaaDoor
