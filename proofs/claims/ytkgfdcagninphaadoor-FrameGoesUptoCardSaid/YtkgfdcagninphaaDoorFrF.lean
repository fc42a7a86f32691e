/- Frames: lists of frames; the walks of All and Split. -/
import Derived.Test.YtkgfdcagninphaaDoorFrE
namespace Go.Proofs.YtkgfdcagninphaaDoor
open Go.RowKit Go.Shelf
attribute [local go_sem] Oper.semAt_some
theorem app_fr2 {w w' : World} {base e size n m : Nat} {v v' : Value} {xs news : List Value} (h : App w w' base e size v v' n m xs news) : Fr v.ownBlock.toList w w' :=
  Fr.of_grown h.grown _ fun k hk _ => by simp [hk]
theorem own_sl {w : World} {B e size n : Nat} {v : Value} {xs : List Value} (h : w.ownsRow B e size v n xs) : ∃ a c, v = .slice a n c := by
  rcases h.2 with ⟨rfl, rfl⟩ | ⟨g, cap, cur, rfl, _⟩
  · exact ⟨none, 0, rfl⟩
  · exact ⟨_, _, rfl⟩
theorem own_ty {w : World} {B e size n k T : Nat} {v : Value} {xs : List Value} {cs : Array Value} (h : w.ownsRow B e size v n xs) (hk : w.heap[k]? = some (.cells cs T)) (hT : T ≠ e) : v.ownBlock ≠ some k := by
  rcases h.2 with ⟨rfl, _⟩ | ⟨g, cap, cur, rfl, _, hh, _⟩
  · simp [Value.ownBlock]
  · simp only [Value.ownBlock]
    intro e1
    cases e1
    rw [hk] at hh
    simp at hh
    exact hT hh.2
theorem own_lp {w : World} {B e size n k : Nat} {v : Value} {xs : List Value} {fn : FuncId} {tmps : Array Value} {ps : Array Tmp} {assign body : Code} {D : Nat} {st : LoopState} {pe : Option Code} (h : w.ownsRow B e size v n xs) (hk : w.heap[k]? = some (lpR fn tmps ps assign body D st pe)) : v.ownBlock ≠ some k := by
  rcases h.2 with ⟨rfl, _⟩ | ⟨g, cap, cur, rfl, _, hh, _⟩
  · simp [Value.ownBlock]
  · simp only [Value.ownBlock]
    intro e1
    cases e1
    rw [hk] at hh
    unfold lpR at hh
    cases hh
theorem own_df {w : World} {B e size n k : Nat} {v : Value} {xs : List Value} {d : Option (List Deferred)} (h : w.ownsRow B e size v n xs) (hk : w.heap[k]? = some (.deferred d)) : v.ownBlock ≠ some k := by
  rcases h.2 with ⟨rfl, _⟩ | ⟨g, cap, cur, rfl, _, hh, _⟩
  · simp [Value.ownBlock]
  · simp only [Value.ownBlock]
    intro e1
    cases e1
    rw [hk] at hh
    cases hh
/-- a frame in a list -/
structure FI where
  t : UInt8
  a : Option Addr
  c : Nat
  d : List UInt8
def FI.v (x : FI) : Value := .slice x.a x.d.length x.c
def FI.fr (x : FI) : UInt8 × List UInt8 := (x.t, x.d)
def fiCells (X : List FI) : List Value := X.flatMap fun x => [.int .i64 (I8 x.t), x.v]
theorem fiCells_snoc (X : List FI) (x : FI) : fiCells (X ++ [x]) = fiCells X ++ [.int .i64 (I8 x.t), x.v] := by unfold fiCells; rw [List.flatMap_append]; simp
theorem fiCells_length (X : List FI) : (fiCells X).length = X.length * 2 := by
  induction X with
  | nil => rfl
  | cons x X ih =>
    have : fiCells (x :: X) = [.int .i64 (I8 x.t), x.v] ++ fiCells X := by unfold fiCells; rw [List.flatMap_cons]
    rw [this, List.length_append, ih, List.length_cons]
    simp
    omega
/-- a list of frames of the call's own, each frame's data in a block of its own -/
structure FrL (w : World) (B : Nat) (v : Value) (X : List FI) : Prop where
  row : w.ownsRow B 25 2 v X.length (fiCells X)
  dat : ∀ x ∈ X, w.ownsRow B 5 1 x.v x.d.length (x.d.map B8)
  dis : X.Pairwise fun x y => ∀ g, x.v.ownBlock = some g → y.v.ownBlock ≠ some g
  off : ∀ x ∈ X, ∀ g, x.v.ownBlock = some g → v.ownBlock ≠ some g
theorem FrL.nil (w : World) (B : Nat) : FrL w B (.slice none 0 0) [] := ⟨World.ownsRow_nil _ _ _ _, fun _ h => (List.not_mem_nil h).elim, List.Pairwise.nil, fun _ h => (List.not_mem_nil h).elim⟩
theorem FrL.fr {S : List Nat} {w w' : World} {B : Nat} {v : Value} {X : List FI} (h : FrL w B v X) (hf : Fr S w w') (h1 : ∀ g, v.ownBlock = some g → g ∉ S) (h2 : ∀ x ∈ X, ∀ g, x.v.ownBlock = some g → g ∉ S) : FrL w' B v X :=
  ⟨own_fr h.row hf h1, fun x hx => own_fr (h.dat x hx) hf (h2 x hx), h.dis, h.off⟩
theorem FrL.keep {w w' : World} {B : Nat} {v : Value} {X : List FI} (h : FrL w B v X) (hf : Fr [] w w') : FrL w' B v X := h.fr hf (by simp) (by simp)
theorem FrL.app {wA w w' : World} {B : Nat} {v v' : Value} {X : List FI} {x : FI} (h : FrL wA B v X) (hf : Fr [] wA w) (hx : w.ownsRow wA.heap.size 5 1 x.v x.d.length (x.d.map B8)) (hB : B ≤ wA.heap.size) (ha : App w w' B 25 2 v v' X.length 1 (fiCells X) [.int .i64 (I8 x.t), x.v]) : FrL w' B v' (X ++ [x]) := by
  have hw := h.keep hf
  have hva : ∀ g, v.ownBlock = some g → g < wA.heap.size := fun g hg => (own_lt h.row hg).2
  have hxa : ∀ g, x.v.ownBlock = some g → wA.heap.size ≤ g ∧ g < w.heap.size := fun g hg => own_lt hx hg
  have hoff : ∀ g, x.v.ownBlock = some g → v.ownBlock ≠ some g := fun g hg e => by have := hva g e; have := hxa g hg; omega
  have hnew : ∀ y : FI, (∀ g, y.v.ownBlock = some g → g < w.heap.size) → (∀ g, y.v.ownBlock = some g → v.ownBlock ≠ some g) → ∀ g, y.v.ownBlock = some g → v'.ownBlock ≠ some g := by
    intro y h1 h2 g hg e
    rcases ha.blk with hb | ⟨g', hb, hlt⟩
    · exact h2 g hg (hb.symm.trans e)
    · rw [hb] at e
      have := Option.some.inj e
      have := h1 g hg
      omega
  refine ⟨?_, fun y hy => ?_, ?_, fun y hy => ?_⟩
  · rw [fiCells_snoc, List.length_append]
    exact ha.own
  · rcases List.mem_append.1 hy with hy | hy
    · exact own_fr (hw.dat y hy) (app_fr2 ha) (fun g hg hm => hw.off y hy g hg (by simpa using hm))
    · obtain rfl : y = x := by simpa using hy
      exact own_base (own_fr hx (app_fr2 ha) (fun g hg hm => hoff g hg (by simpa using hm))) hB
  · rw [List.pairwise_append]
    refine ⟨h.dis, by simp, fun y hy z hz => ?_⟩
    obtain rfl : z = x := by simpa using hz
    intro g hg e
    have h1 := (own_lt (h.dat y hy) hg).2
    have h2 := (hxa g e).1
    omega
  · rcases List.mem_append.1 hy with hy | hy
    · exact hnew y (fun g hg => (own_lt (hw.dat y hy) hg).2) (fun g hg => h.off y hy g hg)
    · obtain rfl : y = x := by simpa using hy
      exact hnew y (fun g hg => (hxa g hg).2) hoff
theorem infoFL : (Tryd.prog.info? 25).map (fun i => (i.zero, i.size, i.bytes)) = some (some (.agg #[.int .i64 0, .slice none 0 0]), 2, 32) := by kernel_rfl
theorem wpListIn_appS {F : Fence} {n : Nat} {P : Program} (w : World) {ops : Array Oper} {rest : List Oper} {o : Oper} {a : Act} {Q : Exit → Act → World → Prop} (hgd : o.guard = none) (s x : Operand) (t : TypeId)
    (ho : o.op = .call { callee := .builtin .append, args := #[s, x], argTypes := #[t, t] })
    (base : Nat) (e : TypeId) (z : Value) (size bytes : Nat) (ht : P.underlying t = some (.slice e)) (hinfo : (P.info? e).map (fun i => (i.zero, i.size, i.bytes)) = some (some z, size, bytes))
    (hzs : z.cells.size = size) (hsz : 0 < size)
    (v : Value) (k : Nat) (xs : List Value) (hs : a.eval s = v) (hown : w.ownsRow base e size v k xs)
    (ao : Option Addr) (m c : Nat) (news : List Value) (hx : a.eval x = .slice ao m c) (hl : news.length = m * size) (hnews : ∀ a, ao = some a → ∀ j u, news[j]? = some u → w.cell? (a.add j) = some u) (hnone : ao = none → m = 0 ∧ c = 0) (h1 : ∀ u ∈ news, u.oneCell' = true)
    (h63 : k + m ≤ maxLen) (hbytes : (k + m) * bytes ≤ 140737488355328) (hbase : base ≤ w.heap.size)
    (h : ∀ v' w', App w w' base e size v v' k m xs news → wpListIn F n P ops Q rest (a.put o.dst v') w') : wpListIn F n P ops Q (o :: rest) a w := by
  obtain ⟨i, hi, hz, hsz2, hby⟩ := info_parts hinfo
  refine wpListIn_plain hgd fun K hK => ?_
  obtain ⟨v', w', hr, happ⟩ := run_appS (P := P) w base t o.type e i z size bytes ht hi hz hsz2 hby hzs hsz v k xs hown ao m c news hl hnews hnone h1 h63 hbytes hbase
  unfold Oper.wpIn
  refine ⟨?_, ?_⟩
  · simp [Oper.about, ho, resolve, Target.leads, Sem.run_pure]
  · rw [Oper.semAt_plain F _ _ (by rw [ho]; intro c hc'; cases hc')]
    simp [execOp, ho, resolve, invoke, builtin, hs, hx, hr, Result.andThen]
    exact hK _ _ (h v' w' happ)
set_option maxHeartbeats 800000 in
theorem All_any (ad : Option Addr) (c : Nat) (L : List UInt8) (w : World) (hl : L.length ≤ 140737488351300) (hno : ad = none → c = 0) (hb : Bytes w ad L) :
    Calls Tryd.prog 20 #[.slice ad L.length c] w fun e w' => ∃ ga gc, e = .returned (.func (.func 35) #[] #[.pointer (some ⟨w.heap.size, 0, none⟩)]) ∧ w'.heap[w.heap.size]? = some (.cells #[.slice ga L.length gc] 23) ∧ w'.ownsRow (w.heap.size + 1) 5 1 (.slice ga L.length gc) L.length (L.map B8) ∧ Fr [] w w' := by
  have HB := Lib.hid hb
  have HNO := Lib.hid hno
  clear hb hno
  go_enter Tryd.func20, Tryd.ntmps20
  go_wp2_with fail
  obtain ⟨w1, hw1⟩ : ∃ w1, w1 = w.alloc (.cells #[.slice ad L.length c] 23) := ⟨_, rfl⟩
  rw [← hw1]
  have hf1 : Fr [] w w1 := by rw [hw1]; exact (Fr.refl _ _).alloc _
  have ho1 : w1.heap[w.heap.size]? = some (.cells #[.slice ad L.length c] 23) := by rw [hw1]; exact heap_alloc_new w _
  have hs1 : w1.heap.size = w.heap.size + 1 := by rw [hw1]; simp
  have HF1 := Lib.hid hf1
  have HO1 := Lib.hid ho1
  have HS1 := Lib.hid hs1
  clear hw1 hf1 ho1 hs1
  refine (Clone_any ad c L w1 hl HNO.out (HB.out.keep HF1.out)).mono ?_
  rintro e w2 ⟨v, rfl, hown, hf2⟩
  obtain ⟨ga, gc, rfl⟩ := own_sl hown
  have hrow := hf2.obj HO1.out (by simp)
  have hx := cell_of_row w2 _ 0 _ _ _ hrow
  have hz := frozen_of_row w2 _ 0 _ _ hrow
  have HROW := Lib.hid hrow
  have HOWN := Lib.hid hown
  have HF2 := Lib.hid (HF1.out.trans hf2)
  clear hrow hown hf2
  go_wp2
  go_ret
  refine ⟨ga, gc, rfl, ?_, ?_, HF2.out.setCell (by simp) _⟩
  · rw [heap_setCell_same w2 _ 0 _ _ _ HROW.out]; rfl
  · have h := HOWN.out
    rw [HS1.out] at h
    exact own_fr h ((Fr.refl [w.heap.size] w2).setCell (by simp) _) (by intro i hi; have := (own_lt h hi).1; simp; omega)
end Go.Proofs.YtkgfdcagninphaaDoor
