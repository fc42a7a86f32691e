/- Record files: Open. -/
import Derived.Test.YtkcipbjikimlfaaRfK
namespace Go.Proofs.Ytkcipbjikimlfaa
open Go.RowKit Go.Shelf
attribute [local go_sem] Oper.semAt_some
theorem no_mark_ret {P : Program} {n : Nat} {fn : Func} {R : Ending → World → Prop} {tmps : Array Value} {W : World} {v : Value} (hr : (results fn tmps).run P W = .ok v W) (hR : R (.returned v) W) :
    bodyPostM Fence.wide n P fn R .ret { tmps := tmps, defers := [] } W := ⟨v, hr, hR⟩
theorem results_c2 {P : Program} {fn : Func} {p q : Tmp} {ty t2 : TypeId} (h : fn.results = #[.cell p ty, .cell q t2]) (tmps : Array Value) (w : World) (a b : Addr) (x y : Value)
    (hp : tmps.getD p undef = .pointer (some a)) (hq : tmps.getD q undef = .pointer (some b)) (h1 : (loadVar ty a).run P w = .ok x w) (h2 : (loadVar t2 b).run P w = .ok y w) :
    (results fn tmps).run P w = .ok (.tuple #[x, y]) w := by
  have key : (results fn tmps).run P w = ((asAddr (tmps.getD p undef)).run P w).andThen fun a w₁ => ((loadVar ty a).run P w₁).andThen fun x w₂ => ((asAddr (tmps.getD q undef)).run P w₂).andThen fun b w₃ => ((loadVar t2 b).run P w₃).andThen fun y w₄ => .ok (.tuple #[x, y]) w₄ := by
    simp only [results, h]
    simp [Sem.run_bind, Result.andThen]
  rw [key, hp, hq]
  simp [asAddr, h1, h2]
theorem load_pF {w : World} {b : Nat} {v : Value} {T : Nat} (h : w.heap[b]? = some (.cells #[v] T)) : (loadVar 23 ⟨b, 0, none⟩).run Try.prog w = .ok v w := by
  have hc := cell_of_row w b 0 _ _ _ h
  simp at hc
  simp [loadVar, go_sem, hc]
theorem load_eF {w : World} {b : Nat} {v : Value} {T : Nat} (h : w.heap[b]? = some (.cells #[v] T)) : (loadVar 24 ⟨b, 0, none⟩).run Try.prog w = .ok v w := by
  have hc := cell_of_row w b 0 _ _ _ h
  simp at hc
  simp [loadVar, go_sem, hc]
/-- records ahead of what else is read -/
def preR (R : Recs) : Except Int Recs → Except Int Recs
  | .error e => .error e
  | .ok T => .ok (R ++ T)
theorem preR_nil (x : Except Int Recs) : preR [] x = x := by cases x <;> rfl
theorem preR_snoc (R : Recs) (o : Option (List UInt8)) (x : Except Int Recs) : preR R (consR o x) = preR (R ++ [o]) x := by
  cases x with
  | error e => rfl
  | ok T => show Except.ok (R ++ o :: T) = .ok ((R ++ [o]) ++ T); rw [List.append_assoc]; rfl
theorem readR_at {S m i : Nat} {b : List UInt8} {R : Recs} (h : readR S m b = preR R (readR S (m - i) (b.drop (i * S)))) (hi : i < m) :
    readR S m b = preR R (stepR (readR S (m - (i + 1)) (b.drop ((i + 1) * S))) (oneR ((b.drop (i * S)).take S))) := by
  rw [h, show m - i = (m - (i + 1)) + 1 by omega]
  show preR R (stepR (readR S (m - (i + 1)) ((b.drop (i * S)).drop S)) _) = _
  rw [List.drop_drop, Nat.add_mul, Nat.one_mul]
theorem frozen_fr {S : List Nat} {w w' : World} (h : Fr S w w') {a : Addr} (hb : a.block < w.heap.size) (hn : a.block ∉ S) : w'.frozen? a = w.frozen? a := by
  unfold World.frozen?
  rw [h.block _ hb hn]
/-- what Open gives -/
def OpenG (w w' : World) (e : Ending) (b : List UInt8) : Prop :=
  (∃ E, openB b = .error E ∧ e = .returned (.tuple #[.pointer none, .int .i64 E]) ∧ Fr [] w w') ∨
  (∃ kd vr sz R p bs, openB b = .ok (kd, vr, sz, R) ∧ e = .returned (.tuple #[.pointer (some ⟨p, 0, none⟩), .int .i64 0]) ∧ RF w.heap.size bs w' p ⟨kd, vr, sz, 0, R⟩ ∧ Fr [] w w')
/-- make([][]byte, 0, n) -/
theorem makeL (n : Nat) (hn : n ≤ 1000000) (w : World) : (Instr.makeSlice 36 (.int .i64 0) (.int .i64 (n : Int))).run Try.prog w = .ok (.slice (some ⟨w.heap.size, 0, none⟩) 0 n) (w.alloc (.cells (madeCells (Value.slice none 0 0).cells n) 30)) := by
  obtain ⟨i, hi, hz, hsz, hby⟩ := info_parts infoLB
  have h := run_make (P := Try.prog) w 36 30 i (.slice none 0 0) Try.underlying36 hi hz .i64 .i64 0 n (by omega) (by omega) (by rw [hby]; omega) (by omega)
  rw [h, hsz]
  simp
theorem LL.made (w : World) (B n : Nat) (hB : B ≤ w.heap.size) (hn : n ≤ 1000000) : LL (w.alloc (.cells (madeCells (Value.slice none 0 0).cells n) 30)) B (.slice (some ⟨w.heap.size, 0, none⟩) 0 n) [] :=
  ⟨⟨by simp, .inr ⟨w.heap.size, n, _, rfl, hB, heap_alloc_new w _, Nat.zero_le _, by unfold maxLen; omega, by rw [size_madeCells, Nat.mul_one], by simp⟩⟩, fun _ h => (List.not_mem_nil h).elim⟩
/-- between two rounds of Open's loop -/
def OpJ (R : LoopState → Option Code → Obj) (l D B F X4 C kd vr S M : Nat) (bod : List UInt8) (vc : Value) (w : World) (i : Nat) (A : World) : Prop :=
  A.heap[l]? = some (R .ready none) ∧ A.heap[D]? = some (.deferred (some [])) ∧ A.heap[B]? = some (.cells #[.pointer none] 23) ∧ A.heap[B + 1]? = some (.cells #[.int .i64 0] 24) ∧ A.heap[X4]? = some (.cells #[.pointer (some ⟨F, 0, none⟩)] 23) ∧
  A.heap[C]? = some (.cells #[vc] 30) ∧ A.heap[C + 1]? = some (.cells #[.int .i64 S] 3) ∧ Fr [] w A ∧ ∃ v X T, RFH A B F v X ⟨kd, vr, S, 0, T⟩ ∧ v.ownBlock ≠ some C ∧ T.length = i ∧ readR S M bod = preR T (readR S (M - i) (bod.drop (i * S)))
/-- where Open's loop was left -/
def OpX (R : LoopState → Option Code → Obj) (l D B : Nat) (b : List UInt8) (w : World) (A : World) : Prop :=
  ∃ E, A.heap[l]? = some (R .done (some .ret)) ∧ A.heap[D]? = some (.deferred (some [])) ∧ A.heap[B]? = some (.cells #[.pointer none] 23) ∧ A.heap[B + 1]? = some (.cells #[.int .i64 E] 24) ∧ openB b = .error E ∧ Fr [] w A
theorem op_leave {R : LoopState → Option Code → Obj} {l D : Nat} {Wb w : World} {b : List UInt8} {E : Int} {T : Ending → World → Prop} {a : Act} (h1 : Wb.heap[l]? = some (R .busy none)) (h2 : Wb.heap[D]? = some (.deferred (some []))) (h3 : Wb.heap[w.heap.size]? = some (.cells #[.pointer none] 23)) (h4 : Wb.heap[w.heap.size + 1]? = some (.cells #[.int .i64 0] 24))
    (hE : openB b = .error E) (hf : Fr [] w Wb) (hBD : w.heap.size + 1 < D) (hDl : D < l) (hT : ∀ W', OpX R l D w.heap.size b w W' → T (.returned (.bool false)) W') :
    rndPost l R T .ret a ((Wb.setCell ⟨w.heap.size, 0, none⟩ (.pointer none)).setCell ⟨w.heap.size + 1, 0, none⟩ (.int .i64 E)) := by
  have a1 : (Wb.setCell ⟨w.heap.size, 0, none⟩ (.pointer none)).heap[w.heap.size]? = some (.cells #[.pointer none] 23) := by rw [heap_setCell_same Wb w.heap.size 0 _ _ _ h3]; rfl
  have a2 := obj_p (k := 0) (v := .pointer none) h4 (show w.heap.size + 1 ≠ w.heap.size by omega)
  have b1 := obj_p (k := 0) (v := .int .i64 E) a1 (show w.heap.size ≠ w.heap.size + 1 by omega)
  have b2 : ((Wb.setCell ⟨w.heap.size, 0, none⟩ (.pointer none)).setCell ⟨w.heap.size + 1, 0, none⟩ (.int .i64 E)).heap[w.heap.size + 1]? = some (.cells #[.int .i64 E] 24) := by rw [heap_setCell_same _ (w.heap.size + 1) 0 _ _ _ a2]; rfl
  have hfw : Fr [w.heap.size, w.heap.size + 1] Wb ((Wb.setCell ⟨w.heap.size, 0, none⟩ (.pointer none)).setCell ⟨w.heap.size + 1, 0, none⟩ (.int .i64 E)) := ((Fr.refl _ _).setCell (by simp) _).setCell (by simp) _
  have c1 := hfw.obj h1 (by simp; omega)
  have c2 := hfw.obj h2 (by simp; omega)
  have hl := (Array.getElem?_eq_some_iff.1 c1).1
  refine ⟨c1, hT _ ⟨E, World.putObj_heap_same hl, ?_, ?_, ?_, hE, ?_⟩⟩
  · rw [World.putObj_heap_other (by omega)]; exact c2
  · rw [World.putObj_heap_other (by omega)]; exact b1
  · rw [World.putObj_heap_other (by omega)]; exact b2
  · exact (hf.next hfw (by intro i hi hlt; simp at hi; omega)).putObj (by intro h; have := hf.size; omega) _
theorem op_next {R : LoopState → Option Code → Obj} {l D F X4 C kd vr S M i : Nat} {bod : List UInt8} {vc v v' : Value} {w Wb w8 : World} {X : List LI} {T : Recs} {y : LI} {fn : FuncId} {tmps : Array Value} {ps : Array Tmp} {assign body : Code} {T' : Ending → World → Prop} {a : Act} (hR : R = lpR fn tmps ps assign body D)
    (h9 : RFH Wb w.heap.size F v X ⟨kd, vr, S, 0, T⟩) (h1 : Wb.heap[l]? = some (R .busy none)) (h2 : Wb.heap[D]? = some (.deferred (some []))) (h3 : Wb.heap[w.heap.size]? = some (.cells #[.pointer none] 23)) (h4 : Wb.heap[w.heap.size + 1]? = some (.cells #[.int .i64 0] 24)) (h5 : Wb.heap[X4]? = some (.cells #[.pointer (some ⟨F, 0, none⟩)] 23))
    (h6 : Wb.heap[C]? = some (.cells #[vc] 30)) (h7 : Wb.heap[C + 1]? = some (.cells #[.int .i64 S] 3)) (hfw : Fr [] w Wb) (hf8 : Fr (F :: v.ownBlock.toList) Wb w8) (h98 : RFH w8 w.heap.size F v' (X ++ [y]) ⟨kd, vr, S, 0, T ++ [y.o]⟩) (hb : v'.ownBlock = v.ownBlock ∨ ∃ g, v'.ownBlock = some g ∧ Wb.heap.size ≤ g) (hvC : v.ownBlock ≠ some C) (hTl : T.length = i)
    (hst : readR S M bod = preR (T ++ [y.o]) (readR S (M - (i + 1)) (bod.drop ((i + 1) * S)))) (z1 : w.heap.size + 1 < F) (z2 : F < X4) (z3 : X4 < C) (z4 : D = C + 2) (z5 : l = D + 1)
    (hT : ∀ W', OpJ R l D w.heap.size F X4 C kd vr S M bod vc w (i + 1) W' → W'.cell? ⟨C, 0, none⟩ = some vc → W'.cell? ⟨C + 1, 0, none⟩ = some (.int .i64 S) → T' (.returned (.bool true)) W') : rndPost l R T' .normal a w8 := by
  have hF : w.heap.size ≤ F := h9.base
  have n1 : l ∉ F :: v.ownBlock.toList := by
    intro hm
    rcases List.mem_cons.1 hm with hm | hm
    · omega
    · exact own_lp h9.recs.row (hR ▸ h1) (by simpa using hm)
  have n2 : D ∉ F :: v.ownBlock.toList := by
    intro hm
    rcases List.mem_cons.1 hm with hm | hm
    · omega
    · exact own_df h9.recs.row h2 (by simpa using hm)
  have n3 : w.heap.size ∉ F :: v.ownBlock.toList := by
    intro hm
    rcases List.mem_cons.1 hm with hm | hm
    · omega
    · exact own_ty h9.recs.row h3 (by decide) (by simpa using hm)
  have n4 : w.heap.size + 1 ∉ F :: v.ownBlock.toList := by
    intro hm
    rcases List.mem_cons.1 hm with hm | hm
    · omega
    · exact own_ty h9.recs.row h4 (by decide) (by simpa using hm)
  have n5 : X4 ∉ F :: v.ownBlock.toList := by
    intro hm
    rcases List.mem_cons.1 hm with hm | hm
    · omega
    · exact own_ty h9.recs.row h5 (by decide) (by simpa using hm)
  have n6 : C ∉ F :: v.ownBlock.toList := by
    intro hm
    rcases List.mem_cons.1 hm with hm | hm
    · omega
    · exact hvC (by simpa using hm)
  have n7 : C + 1 ∉ F :: v.ownBlock.toList := by
    intro hm
    rcases List.mem_cons.1 hm with hm | hm
    · omega
    · exact own_ty h9.recs.row h7 (by decide) (by simpa using hm)
  have k1 := hf8.obj h1 n1
  have hl8 := (Array.getElem?_eq_some_iff.1 k1).1
  have hwl : w.heap.size ≤ l := by omega
  have hC8 : C < Wb.heap.size := (Array.getElem?_eq_some_iff.1 h6).1
  have kC := hf8.obj h6 n6
  have kC1 := hf8.obj h7 n7
  have oC : (w8.putObj l (R .ready none)).heap[C]? = some (.cells #[vc] 30) := by rw [World.putObj_heap_other (by omega)]; exact kC
  have oC1 : (w8.putObj l (R .ready none)).heap[C + 1]? = some (.cells #[.int .i64 S] 3) := by rw [World.putObj_heap_other (by omega)]; exact kC1
  refine ⟨k1, hT _ ⟨World.putObj_heap_same hl8, ?_, ?_, ?_, ?_, oC, oC1, ?_, v', X ++ [y], T ++ [y.o], ?_, ?_, by rw [List.length_append, hTl]; rfl, hst⟩ (cell_of_row _ _ 0 _ _ _ oC) (cell_of_row _ _ 0 _ _ _ oC1)⟩
  · rw [World.putObj_heap_other (by omega)]; exact hf8.obj h2 n2
  · rw [World.putObj_heap_other (by omega)]; exact hf8.obj h3 n3
  · rw [World.putObj_heap_other (by omega)]; exact hf8.obj h4 n4
  · rw [World.putObj_heap_other (by omega)]; exact hf8.obj h5 n5
  · refine (hfw.next hf8 ?_).putObj (by omega) _
    intro i hi hlt
    rcases List.mem_cons.1 hi with hm | hm
    · omega
    · have := (own_lt h9.recs.row (show v.ownBlock = some i by simpa using hm)).1
      omega
  · exact h98.fr ((Fr.refl [l] w8).putObj (by simp) _) (fun i hi hm => rf_apart h98 hR k1 i hi (by simpa using hm))
  · rcases hb with hb | ⟨g, hb, hg⟩
    · rw [hb]; exact hvC
    · rw [hb]; simp; omega
theorem LL.offF {w : World} {B F : Nat} {v : Value} {X : List LI} {cs : Array Value} (h : LL w B v X) (ho : w.heap[F]? = some (.cells cs 38)) : F ∉ llB v X := by
  intro hi
  rcases llB_cases hi with hi | ⟨x, hx, hi⟩
  · exact own_ty h.row ho (by decide) hi
  · exact own_ty (h.dat x hx) ho (by decide) hi
theorem fileOf_err {kd vr sz : Nat} {x : Except Int Recs} {E : Int} (h : x = .error E) : fileOf kd vr sz x = .error E := by subst h; rfl
end Go.Proofs.Ytkcipbjikimlfaa
