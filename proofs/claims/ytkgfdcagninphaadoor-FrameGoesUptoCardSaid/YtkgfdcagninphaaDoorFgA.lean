/- Frames: what FrameGoes holds in memory; several marks; regions. -/
import Derived.Test.YtkgfdcagninphaaDoorFrS
import Derived.Test.YtkgfdcagninphaaDoorSpoil
import Derived.Test.YtkgfdcagninphaaDoorRound
namespace Go.Proofs.YtkgfdcagninphaaDoor
open Go.RowKit Go.Shelf
attribute [local go_sem] Oper.semAt_some
theorem results_cG {P : Program} {fn : Func} {p : Tmp} {ty : TypeId} (h : fn.results = #[.cell p ty]) (tmps : Array Value) (w : World) (a : Addr) (x : Value)
    (hp : tmps.getD p undef = .pointer (some a)) (h1 : (loadVar ty a).run P w = .ok x w) : (results fn tmps).run P w = .ok x w := by
  have key : (results fn tmps).run P w = ((asAddr (tmps.getD p undef)).run P w).andThen fun a w₁ => (loadVar ty a).run P w₁ := by
    simp only [results, h]
    simp [Sem.run_bind, Result.andThen]
  rw [key, hp]
  simp [asAddr, h1]
theorem load_bG {w : World} {b : Nat} {v : Value} {T : Nat} (h : w.heap[b]? = some (.cells #[v] T)) : (loadVar 4 ⟨b, 0, none⟩).run Tryd.prog w = .ok v w := by
  have hc := cell_of_row w b 0 _ _ _ h
  simp at hc
  simp [loadVar, go_sem, hc]
theorem eql_nilG (w : World) (f : Fn) (xs ys : Array Value) : (binOp .eql 43 (.func f xs ys) .nilFunc).run Tryd.prog w = .ok (.bool false) w := by
  have h : ∀ d : Nat, (Op.equalIn (d + 1) 43 (.func f xs ys) .nilFunc).run Tryd.prog w = .ok false w := fun d => by simp [Op.equalIn, run_underlying Tryd.underlying43]
  simp only [binOp]
  simp [Op.equal, Op.maxDepth, h 9999]
theorem frNewG {w w1 w2 : World} {S : List Nat} (h1 : Fr [] w w1) (h2 : Fr S w1 w2) (hS : ∀ i ∈ S, w.heap.size ≤ i) : Fr [] w w2 := h1.next h2 fun i hi hlt => by have := hS i hi; omega
/-- the marks that ranges over functions leave -/
def marksG (Ds : List Nat) : List Deferred := Ds.map fun D => { target := .collected D, args := #[] }
theorem marksG_leave {P : Program} {n : Nat} {fn : Func} {R : Ending → World → Prop} {tmps : Array Value} {v : Value} : ∀ (Ds : List Nat) (W : World), (∀ D ∈ Ds, W.heap[D]? = some (.deferred (some []))) → Ds.Nodup →
    (∀ W', Fr Ds W W' → (results fn tmps).run P W' = .ok v W' ∧ R (.returned v) W') → LeavesInM Fence.wide n P fn tmps R (marksG Ds) .returning W
  | [], W, _, _, h => ⟨v, (h W (Fr.refl _ _)).1, (h W (Fr.refl _ _)).2⟩
  | D :: Ds, W, hD, hnd, h => by
    have h1 := hD D List.mem_cons_self
    obtain ⟨hn, hnd2⟩ := List.nodup_cons.1 hnd
    have hf : Fr (D :: Ds) W (W.putObj D (.deferred none)) := (Fr.refl _ _).putObj (fun _ => List.mem_cons_self) _
    refine ⟨by simp, .inl ⟨D, _, rfl, run_takeDeferred h1, marksG_leave Ds _ (fun D' hD' => ?_) hnd2 (fun W' hW' => h W' (hf.trans (hW'.mono fun i hi _ => List.mem_cons_of_mem _ hi)))⟩⟩
    rw [World.putObj_heap_other (fun e => hn (by rw [← e]; exact hD'))]
    exact hD D' (List.mem_cons_of_mem _ hD')
theorem marksG_ret {P : Program} {n : Nat} {fn : Func} {R : Ending → World → Prop} {tmps : Array Value} {Ds : List Nat} {W : World} {v : Value} (hD : ∀ D ∈ Ds, W.heap[D]? = some (.deferred (some []))) (hnd : Ds.Nodup)
    (h : ∀ W', Fr Ds W W' → (results fn tmps).run P W' = .ok v W' ∧ R (.returned v) W') : bodyPostM Fence.wide n P fn R .ret { tmps := tmps, defers := marksG Ds } W := marksG_leave Ds W hD hnd h
/-- what the rounds read -/
structure FgS (w0 : World) (RZ NB WB Bn : Nat) (er : Int) (wv : Value) (X : List FI) (ga : Option Addr) (gc : Nat) (L : List UInt8) (A : World) : Prop where
  rz : A.heap[RZ]? = some (.cells #[.bool false] 4)
  nb : A.heap[NB]? = some (.cells #[.int .i64 er] 3)
  wb : A.heap[WB]? = some (.cells #[wv] 35)
  fl : FrL A w0.heap.size wv X
  bn : A.heap[Bn]? = some (.cells #[.slice ga L.length gc] 23)
  go : A.ownsRow w0.heap.size 5 1 (.slice ga L.length gc) L.length (L.map B8)
  fr : Fr [] w0 A
  new : w0.heap.size ≤ RZ ∧ w0.heap.size ≤ NB
theorem FgS.step {S : List Nat} {w0 : World} {RZ NB WB Bn : Nat} {er : Int} {wv : Value} {X : List FI} {ga : Option Addr} {gc : Nat} {L : List UInt8} {A A' : World} (h : FgS w0 RZ NB WB Bn er wv X ga gc L A) (hf : Fr S A A') (hS : ∀ i ∈ S, w0.heap.size ≤ i) (h1 : RZ ∉ S) (h2 : NB ∉ S) (h3 : WB ∉ S) (h4 : Bn ∉ S) (h5 : ∀ g, wv.ownBlock = some g → g ∉ S) (h6 : ∀ x ∈ X, ∀ g, x.v.ownBlock = some g → g ∉ S) (h7 : ∀ g, (Value.slice ga L.length gc).ownBlock = some g → g ∉ S) : FgS w0 RZ NB WB Bn er wv X ga gc L A' :=
  ⟨hf.obj h.rz h1, hf.obj h.nb h2, hf.obj h.wb h3, h.fl.fr hf h5 h6, hf.obj h.bn h4, own_fr h.go hf h7, frNewG h.fr hf hS, h.new⟩
theorem FgS.keep {w0 : World} {RZ NB WB Bn : Nat} {er : Int} {wv : Value} {X : List FI} {ga : Option Addr} {gc : Nat} {L : List UInt8} {A A' : World} (h : FgS w0 RZ NB WB Bn er wv X ga gc L A) (hf : Fr [] A A') : FgS w0 RZ NB WB Bn er wv X ga gc L A' :=
  h.step hf (by simp) (by simp) (by simp) (by simp) (by simp) (by simp) (by simp) (by simp)
def isLG : Obj → Prop
  | .loop _ => True
  | _ => False
theorem isLG_lp (fn : FuncId) (tmps : Array Value) (ps : Array Tmp) (assign body : Code) (D : Nat) (st : LoopState) (pe : Option Code) : isLG (lpR fn tmps ps assign body D st pe) := by unfold lpR; trivial
/-- a block that the rounds turn -/
structure OffG (w0 : World) (RZ NB WB Bn : Nat) (wv : Value) (X : List FI) (ga : Option Addr) (gc : Nat) (L : List UInt8) (x : Nat) : Prop where
  new : w0.heap.size ≤ x
  o1 : RZ ≠ x
  o2 : NB ≠ x
  o3 : WB ≠ x
  o4 : Bn ≠ x
  o5 : ∀ g, wv.ownBlock = some g → g ≠ x
  o6 : ∀ y ∈ X, ∀ g, y.v.ownBlock = some g → g ≠ x
  o7 : ∀ g, (Value.slice ga L.length gc).ownBlock = some g → g ≠ x
theorem FgS.fr1 {w0 : World} {RZ NB WB Bn : Nat} {er : Int} {wv : Value} {X : List FI} {ga : Option Addr} {gc : Nat} {L : List UInt8} {A A' : World} {x : Nat} (h : FgS w0 RZ NB WB Bn er wv X ga gc L A) (ho : OffG w0 RZ NB WB Bn wv X ga gc L x) (hf : Fr [x] A A') : FgS w0 RZ NB WB Bn er wv X ga gc L A' :=
  h.step hf (by simpa using ho.new) (by simpa using ho.o1) (by simpa using ho.o2) (by simpa using ho.o3) (by simpa using ho.o4) (fun g hg => by simpa using ho.o5 g hg) (fun y hy g hg => by simpa using ho.o6 y hy g hg) (fun g hg => by simpa using ho.o7 g hg)
/-- the error's box turns -/
theorem FgS.setN {w0 : World} {RZ NB WB Bn : Nat} {er : Int} {wv : Value} {X : List FI} {ga : Option Addr} {gc : Nat} {L : List UInt8} {A : World} (h : FgS w0 RZ NB WB Bn er wv X ga gc L A) (e2 : Int) : FgS w0 RZ NB WB Bn e2 wv X ga gc L (A.setCell ⟨NB, 0, none⟩ (.int .i64 e2)) := by
  have hf : Fr [NB] A (A.setCell ⟨NB, 0, none⟩ (.int .i64 e2)) := (Fr.refl _ _).setCell (by simp) _
  have key : ∀ {i : Nat} {cs : Array Value} {T : Nat}, A.heap[i]? = some (.cells cs T) → T ≠ 3 → i ∉ [NB] := fun {i cs T} hi hT hm => by
    simp at hm
    subst hm
    rw [h.nb] at hi
    cases hi
    exact hT rfl
  refine ⟨hf.obj h.rz (key h.rz (by decide)), by rw [heap_setCell_same _ _ 0 _ _ _ h.nb]; rfl, hf.obj h.wb (key h.wb (by decide)), h.fl.fr hf (fun g hg => ?_) (fun y hy g hg => ?_), hf.obj h.bn (key h.bn (by decide)), own_fr h.go hf (fun g hg => ?_), frNewG h.fr hf (by simpa using h.new.2), h.new⟩
  · simpa using fun e => own_ty h.fl.row h.nb (by decide) (by rw [← e]; exact hg)
  · simpa using fun e => own_ty (h.fl.dat y hy) h.nb (by decide) (by rw [← e]; exact hg)
  · simpa using fun e => own_ty h.go h.nb (by decide) (by rw [← e]; exact hg)
/-- new memory is none of it -/
theorem FgS.off {w0 : World} {RZ NB WB Bn : Nat} {er : Int} {wv : Value} {X : List FI} {ga : Option Addr} {gc : Nat} {L : List UInt8} {A : World} {x : Nat} (h : FgS w0 RZ NB WB Bn er wv X ga gc L A) (hx : A.heap.size ≤ x) : OffG w0 RZ NB WB Bn wv X ga gc L x := by
  have key : ∀ {i : Nat} {o : Obj}, A.heap[i]? = some o → i ≠ x := fun hi e => by have := (Array.getElem?_eq_some_iff.1 hi).1; omega
  have h1 := h.fl.lt
  exact ⟨Nat.le_trans h.fr.size hx, key h.rz, key h.nb, key h.wb, key h.bn, fun g hg e => by have := (h1.1 g hg).2; omega, fun y hy g hg e => by have := (h1.2 y hy g hg).2; omega, fun g hg e => by have := (own_lt h.go hg).2; omega⟩
structure FgL (w0 : World) (RZ NB WB Bn : Nat) (er : Int) (wv : Value) (X : List FI) (ga : Option Addr) (gc : Nat) (L : List UInt8) (XR r XA D : Nat) (Ds : List Nat) (o : Obj) (k : Nat) (A : World) : Prop where
  s : FgS w0 RZ NB WB Bn er wv X ga gc L A
  xr : A.heap[XR]? = some (.cells #[.int .i64 r] 3)
  xa : A.heap[XA]? = some (.cells #[.int .i64 k] 3)
  lp : A.heap[D + 1]? = some o
  il : isLG o
  df : ∀ D' ∈ D :: Ds, A.heap[D']? = some (.deferred (some []))
  ne : XA ≠ XR
  oa : OffG w0 RZ NB WB Bn wv X ga gc L XA
  ol : OffG w0 RZ NB WB Bn wv X ga gc L (D + 1)
  new : w0.heap.size ≤ XR ∧ w0.heap.size ≤ D
theorem FgL.keep {w0 : World} {RZ NB WB Bn : Nat} {er : Int} {wv : Value} {X : List FI} {ga : Option Addr} {gc : Nat} {L : List UInt8} {XR r XA D : Nat} {Ds : List Nat} {o : Obj} {k : Nat} {A A' : World} (h : FgL w0 RZ NB WB Bn er wv X ga gc L XR r XA D Ds o k A) (hf : Fr [] A A') : FgL w0 RZ NB WB Bn er wv X ga gc L XR r XA D Ds o k A' :=
  ⟨h.s.keep hf, hf.obj h.xr (by simp), hf.obj h.xa (by simp), hf.obj h.lp (by simp), h.il, fun D' hD => hf.obj (h.df D' hD) (by simp), h.ne, h.oa, h.ol, h.new⟩
theorem objG_ne {A : World} {i j : Nat} {a b : Obj} (hi : A.heap[i]? = some a) (hj : A.heap[j]? = some b) (h : a ≠ b) : i ≠ j := fun e => by
  rw [e, hj] at hi
  exact h (Option.some.inj hi).symm
theorem isLG_cells {o : Obj} (h : isLG o) (cs : Array Value) (T : Nat) (fz : Nat × Nat) : Obj.cells cs T fz ≠ o := fun e => by rw [← e] at h; exact h
theorem isLG_def {o : Obj} (h : isLG o) (x : Option (List Deferred)) : Obj.deferred x ≠ o := fun e => by rw [← e] at h; exact h
theorem FgL.setA {w0 : World} {RZ NB WB Bn : Nat} {er : Int} {wv : Value} {X : List FI} {ga : Option Addr} {gc : Nat} {L : List UInt8} {XR r XA D : Nat} {Ds : List Nat} {o : Obj} {k : Nat} {A : World} (h : FgL w0 RZ NB WB Bn er wv X ga gc L XR r XA D Ds o k A) (k2 : Nat) : FgL w0 RZ NB WB Bn er wv X ga gc L XR r XA D Ds o k2 (A.setCell ⟨XA, 0, none⟩ (.int .i64 k2)) := by
  have hf : Fr [XA] A (A.setCell ⟨XA, 0, none⟩ (.int .i64 k2)) := (Fr.refl _ _).setCell (by simp) _
  refine ⟨h.s.fr1 h.oa hf, hf.obj h.xr (by simpa using h.ne.symm), by rw [heap_setCell_same _ _ 0 _ _ _ h.xa]; rfl, hf.obj h.lp ?_, h.il, fun D' hD => hf.obj (h.df D' hD) ?_, h.ne, h.oa, h.ol, h.new⟩
  · simp only [List.mem_singleton]
    exact (objG_ne h.xa h.lp (isLG_cells h.il _ _ _)).symm
  · simp only [List.mem_singleton]
    exact (objG_ne h.xa (h.df D' hD) (by simp)).symm
theorem FgL.putL {w0 : World} {RZ NB WB Bn : Nat} {er : Int} {wv : Value} {X : List FI} {ga : Option Addr} {gc : Nat} {L : List UInt8} {XR r XA D : Nat} {Ds : List Nat} {o o' : Obj} {k : Nat} {A : World} (h : FgL w0 RZ NB WB Bn er wv X ga gc L XR r XA D Ds o k A) (ho : isLG o') : FgL w0 RZ NB WB Bn er wv X ga gc L XR r XA D Ds o' k (A.putObj (D + 1) o') := by
  have hf : Fr [D + 1] A (A.putObj (D + 1) o') := (Fr.refl _ _).putObj (by simp) _
  refine ⟨h.s.fr1 h.ol hf, hf.obj h.xr ?_, hf.obj h.xa ?_, World.putObj_heap_same (Array.getElem?_eq_some_iff.1 h.lp).1, ho, fun D' hD => hf.obj (h.df D' hD) ?_, h.ne, h.oa, h.ol, h.new⟩
  · simp only [List.mem_singleton]
    exact objG_ne h.xr h.lp (isLG_cells h.il _ _ _)
  · simp only [List.mem_singleton]
    exact objG_ne h.xa h.lp (isLG_cells h.il _ _ _)
  · simp only [List.mem_singleton]
    exact objG_ne (h.df D' hD) h.lp (isLG_def h.il _)
theorem FgL.cells {w0 : World} {RZ NB WB Bn : Nat} {er : Int} {wv : Value} {X : List FI} {ga : Option Addr} {gc : Nat} {L : List UInt8} {XR r XA D : Nat} {Ds : List Nat} {o : Obj} {k : Nat} {A : World} (h : FgL w0 RZ NB WB Bn er wv X ga gc L XR r XA D Ds o k A) :
    A.cell? ⟨XR, 0, none⟩ = some (.int .i64 r) ∧ A.cell? ⟨XA, 0, none⟩ = some (.int .i64 k) ∧ A.cell? ⟨WB, 0, none⟩ = some wv ∧ A.cell? ⟨NB, 0, none⟩ = some (.int .i64 er) ∧ A.frozen? ⟨XA, 0, none⟩ = false :=
  ⟨cell_of_row _ _ 0 _ _ _ h.xr, cell_of_row _ _ 0 _ _ _ h.xa, cell_of_row _ _ 0 _ _ _ h.s.wb, cell_of_row _ _ 0 _ _ _ h.s.nb, frozen_of_row _ _ 0 _ _ h.xa⟩
/-- the k-th frame that is wanted -/
theorem FgS.item {w0 : World} {RZ NB WB Bn : Nat} {er : Int} {wv : Value} {X : List FI} {ga : Option Addr} {gc : Nat} {L : List UInt8} {A : World} (h : FgS w0 RZ NB WB Bn er wv X ga gc L A) {k : Nat} (hk : k < X.length) :
    ∃ g c, wv = .slice (some ⟨g, 0, none⟩) X.length c ∧ A.cell? ⟨g, k * 2, none⟩ = some (.int .i64 (I8 (X[k]'hk).t)) ∧ A.cell? ⟨g, k * 2 + 1, none⟩ = some (X[k]'hk).v := by
  rcases h.fl.row.2 with ⟨e, h0⟩ | ⟨g, cap, cur, e, hb, hh, hn, hm, hs, ht⟩
  · omega
  · have hc := h.fl.row.cells (g := g) (by rw [e]; rfl)
    obtain ⟨f1, f2⟩ := fiCells_get X k hk
    have c1 := hc _ _ f1
    have c2 := hc _ _ f2
    refine ⟨g, cap, e, ?_, ?_⟩
    · rw [show (⟨g, 0, none⟩ : Addr).add (k * 2) = ⟨g, k * 2, none⟩ by by_cases h0 : k * 2 = 0 <;> simp [Addr.add, h0]] at c1
      exact c1
    · rw [show (⟨g, 0, none⟩ : Addr).add (k * 2 + 1) = ⟨g, k * 2 + 1, none⟩ by simp [Addr.add]] at c2
      exact c2
/-- .. as a piece of the list that is wanted -/
theorem FgS.want {w0 : World} {RZ NB WB Bn : Nat} {er : Int} {wa : Option Addr} {wc : Nat} {X : List FI} {ga : Option Addr} {gc : Nat} {L : List UInt8} {A : World} (h : FgS w0 RZ NB WB Bn er (.slice wa X.length wc) X ga gc L A) {F F' : List (UInt8 × List UInt8)} {t : UInt8} {d : List UInt8} (hX : X.map FI.fr = F ++ (t, d) :: F') :
    F.length < X.length ∧ ∃ g xa xc, wa = some ⟨g, 0, none⟩ ∧ A.cell? ⟨g, F.length * 2, none⟩ = some (.int .i64 (I8 t)) ∧ A.cell? ⟨g, F.length * 2 + 1, none⟩ = some (.slice xa d.length xc) ∧ Bytes A xa d ∧ (xa = none → xc = 0) := by
  have hlen : F.length < X.length := by
    have := congrArg List.length hX
    simp at this
    omega
  have he : (X[F.length]'hlen).fr = (t, d) := by
    have h1 : (X.map FI.fr)[F.length]? = some (t, d) := by rw [hX]; simp
    rw [List.getElem?_map, List.getElem?_eq_getElem hlen] at h1
    simpa using h1
  have ht : (X[F.length]'hlen).t = t := congrArg Prod.fst he
  have hd : (X[F.length]'hlen).d = d := congrArg Prod.snd he
  obtain ⟨g, c, e, c1, c2⟩ := h.item hlen
  have hdat := h.fl.dat _ (List.getElem_mem hlen)
  simp only [Value.slice.injEq] at e
  rw [ht] at c1
  unfold FI.v at c2 hdat
  rw [hd] at c2 hdat
  refine ⟨hlen, g, _, _, e.1, c1, c2, (own_by hdat).1, fun ha => ?_⟩
  rcases hdat.2 with ⟨e1, _⟩ | ⟨g', cap, cur, e1, _⟩
  · simp only [Value.slice.injEq] at e1; exact e1.2.2
  · simp only [Value.slice.injEq] at e1; rw [ha] at e1; cases e1.1
/-- the loop's record behind the error's round -/
def stG (R : LoopState → Option Code → Obj) (r : Nat) : Obj := if r = 1 then R .done (some (.exit 4)) else R .ready none
/-- new memory is none of the rounds' -/
structure OffX (w0 : World) (RZ NB WB Bn : Nat) (wv : Value) (X : List FI) (ga : Option Addr) (gc : Nat) (L : List UInt8) (XR XA D : Nat) (Ds : List Nat) (x : Nat) : Prop where
  o : OffG w0 RZ NB WB Bn wv X ga gc L x
  xr : XR ≠ x
  xa : XA ≠ x
  lp : D + 1 ≠ x
  df : ∀ D' ∈ D :: Ds, D' ≠ x
theorem FgL.offx {w0 : World} {RZ NB WB Bn : Nat} {er : Int} {wv : Value} {X : List FI} {ga : Option Addr} {gc : Nat} {L : List UInt8} {XR r XA D : Nat} {Ds : List Nat} {o : Obj} {k : Nat} {A : World} (h : FgL w0 RZ NB WB Bn er wv X ga gc L XR r XA D Ds o k A) {x : Nat} (hx : A.heap.size ≤ x) : OffX w0 RZ NB WB Bn wv X ga gc L XR XA D Ds x := by
  have key : ∀ {i : Nat} {o : Obj}, A.heap[i]? = some o → i ≠ x := fun hi e => by have := (Array.getElem?_eq_some_iff.1 hi).1; omega
  exact ⟨h.s.off hx, key h.xr, key h.xa, key h.lp, fun D' hD => key (h.df D' hD)⟩
theorem FgL.frx {w0 : World} {RZ NB WB Bn : Nat} {er : Int} {wv : Value} {X : List FI} {ga : Option Addr} {gc : Nat} {L : List UInt8} {XR r XA D : Nat} {Ds : List Nat} {o : Obj} {k : Nat} {A A' : World} (h : FgL w0 RZ NB WB Bn er wv X ga gc L XR r XA D Ds o k A) {x : Nat} (ho : OffX w0 RZ NB WB Bn wv X ga gc L XR XA D Ds x) (hf : Fr [x] A A') : FgL w0 RZ NB WB Bn er wv X ga gc L XR r XA D Ds o k A' :=
  ⟨h.s.fr1 ho.o hf, hf.obj h.xr (by simpa using ho.xr), hf.obj h.xa (by simpa using ho.xa), hf.obj h.lp (by simpa using ho.lp), h.il, fun D' hD => hf.obj (h.df D' hD) (by simpa using ho.df D' hD), h.ne, h.oa, h.ol, h.new⟩
theorem own_maxG {w : World} {B e n : Nat} {v : Value} {xs : List Value} (h : w.ownsRow B e 1 v n xs) : n ≤ 9223372036854775807 := by
  rcases h.2 with ⟨_, h0⟩ | ⟨g, cap, cur, _, _, _, hn, hm, _⟩
  · omega
  · unfold maxLen at hm; omega
end Go.Proofs.YtkgfdcagninphaaDoor
