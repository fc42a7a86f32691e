/- Record files: Open. -/
import Derived.Test.YtlckhfjkdahfpaaDoorRfK
namespace Go.Proofs.YtlckhfjkdahfpaaDoor
open Go.RowKit Go.Shelf
attribute [local go_sem] Oper.semAt_some
theorem no_mark_ret {P : Program} {n : Nat} {fn : Func} {R : Ending → World → Prop} {tmps : Array Value} {W : World} {v : Value} (hr : (results fn tmps).run P W = .ok v W) (hR : R (.returned v) W) :
    bodyPostM Fence.wide n P fn R .ret { tmps := tmps, defers := [] } W := ⟨v, hr, hR⟩
theorem results_c2 {P : Program} {fn : Func} {p q : Tmp} {ty t2 : TypeId} (h : fn.results = #[.cell p ty, .cell q t2]) (tmps : Array Value) (w : World) (a b : Addr) (x y : Value)
    (hp : tmps.getD p undef = .pointer (some a)) (hq : tmps.getD q undef = .pointer (some b)) (h1 : (loadVar ty a).run P w = .ok x w) (h2 : (loadVar t2 b).run P w = .ok y w) :
    (results fn tmps).run P w = .ok (.tuple #[x, y]) w := by
  have key : (results fn tmps).run P w = ((asAddr (tmps.getD p undef)).run P w).andThen fun a w₁ => ((loadVar ty a).run P w₁).andThen fun x w₂ => ((asAddr (tmps.getD q undef)).run P w₂).andThen fun b w₃ => ((loadVar t2 b).run P w₃).andThen fun y w₄ => .ok (.tuple #[x, y]) w₄ := by
    simp only [results, h]
    simp [Sem.run_bind, Result.andThen]
  rw [key, hp, hq]
  simp [asAddr, h1, h2]
theorem load_pF {w : World} {b : Nat} {v : Value} {T : Nat} (h : w.heap[b]? = some (.cells #[v] T)) : (loadVar 62 ⟨b, 0, none⟩).run Tryd.prog w = .ok v w := by
  have hc := cell_of_row w b 0 _ _ _ h
  simp at hc
  simp [loadVar, go_sem, hc]
theorem load_eF {w : World} {b : Nat} {v : Value} {T : Nat} (h : w.heap[b]? = some (.cells #[v] T)) : (loadVar 25 ⟨b, 0, none⟩).run Tryd.prog w = .ok v w := by
  have hc := cell_of_row w b 0 _ _ _ h
  simp at hc
  simp [loadVar, go_sem, hc]
/-- records ahead of what else is read -/
def preR (R : Recs) : Except Int Recs → Except Int Recs
  | .error e => .error e
  | .ok T => .ok (R ++ T)
theorem preR_nil (x : Except Int Recs) : preR [] x = x := by cases x <;> rfl
theorem preR_snoc (R : Recs) (o : Option (List UInt8)) (x : Except Int Recs) : preR R (consR o x) = preR (R ++ [o]) x := by
  cases x with
  | error e => rfl
  | ok T => show Except.ok (R ++ o :: T) = .ok ((R ++ [o]) ++ T); rw [List.append_assoc]; rfl
theorem readR_at {S m i : Nat} {b : List UInt8} {R : Recs} (h : readR S m b = preR R (readR S (m - i) (b.drop (i * S)))) (hi : i < m) :
    readR S m b = preR R (stepR (readR S (m - (i + 1)) (b.drop ((i + 1) * S))) (oneR ((b.drop (i * S)).take S))) := by
  rw [h, show m - i = (m - (i + 1)) + 1 by omega]
  show preR R (stepR (readR S (m - (i + 1)) ((b.drop (i * S)).drop S)) _) = _
  rw [List.drop_drop, Nat.add_mul, Nat.one_mul]
theorem frozen_fr {S : List Nat} {w w' : World} (h : Fr S w w') {a : Addr} (hb : a.block < w.heap.size) (hn : a.block ∉ S) : w'.frozen? a = w.frozen? a := by
  unfold World.frozen?
  rw [h.block _ hb hn]
/-- what Open gives -/
def OpenG (w w' : World) (e : Ending) (b : List UInt8) : Prop :=
  (∃ E, openB b = .error E ∧ e = .returned (.tuple #[.pointer none, .int .i64 E]) ∧ Fr [] w w') ∨
  (∃ kd vr sz R p bs, openB b = .ok (kd, vr, sz, R) ∧ e = .returned (.tuple #[.pointer (some ⟨p, 0, none⟩), .int .i64 0]) ∧ RF w.heap.size bs w' p ⟨kd, vr, sz, 0, R⟩ ∧ Fr [] w w')
/-- make([][]byte, 0, n) -/
theorem makeL (n : Nat) (hn : n ≤ 1000000) (w : World) : (Instr.makeSlice 91 (.int .i64 0) (.int .i64 (n : Int))).run Tryd.prog w = .ok (.slice (some ⟨w.heap.size, 0, none⟩) 0 n) (w.alloc (.cells (madeCells (Value.slice none 0 0).cells n) 37)) := by
  obtain ⟨i, hi, hz, hsz, hby⟩ := info_parts infoLB
  have h := run_make (P := Tryd.prog) w 91 37 i (.slice none 0 0) Tryd.underlying91 hi hz .i64 .i64 0 n (by omega) (by omega) (by rw [hby]; omega) (by omega)
  rw [h, hsz]
  simp
theorem LL.made (w : World) (B n : Nat) (hB : B ≤ w.heap.size) (hn : n ≤ 1000000) : LL (w.alloc (.cells (madeCells (Value.slice none 0 0).cells n) 37)) B (.slice (some ⟨w.heap.size, 0, none⟩) 0 n) [] :=
  ⟨⟨by simp, .inr ⟨w.heap.size, n, _, rfl, hB, heap_alloc_new w _, Nat.zero_le _, by unfold maxLen; omega, by rw [size_madeCells, Nat.mul_one], by simp⟩⟩, fun _ h => (List.not_mem_nil h).elim⟩
/-- Open ends with an error -/
theorem open_err {w w1 : World} {b : List UInt8} {E : Int} {o : Obj} {v u : Value} {tmps : Array Value} (he : openB b = .error E) (h1 : w1.heap[w.heap.size]? = some (.cells #[v] 62)) (h2 : w1.heap[w.heap.size + 1]? = some (.cells #[u] 25)) (hf : Fr [] w w1)
    (hp : tmps.getD 2 undef = .pointer (some ⟨w.heap.size, 0, none⟩)) (hq : tmps.getD 3 undef = .pointer (some ⟨w.heap.size + 1, 0, none⟩)) :
    bodyPostM Fence.wide 5 Tryd.prog Tryd.f32 (fun e w' => OpenG w w' e b) Exit.ret { tmps := tmps, defers := [] } (((w1.setCell ⟨w.heap.size, 0, none⟩ (.pointer none)).setCell ⟨w.heap.size + 1, 0, none⟩ (.int .i64 E)).alloc o) := by
  have a1 : (w1.setCell ⟨w.heap.size, 0, none⟩ (.pointer none)).heap[w.heap.size]? = some (.cells #[.pointer none] 62) := by rw [heap_setCell_same w1 w.heap.size 0 _ _ _ h1]; rfl
  have a2 := obj_p (k := 0) (v := .pointer none) h2 (show w.heap.size + 1 ≠ w.heap.size by omega)
  have b1 := obj_p (k := 0) (v := .int .i64 E) a1 (show w.heap.size ≠ w.heap.size + 1 by omega)
  have b2 : ((w1.setCell ⟨w.heap.size, 0, none⟩ (.pointer none)).setCell ⟨w.heap.size + 1, 0, none⟩ (.int .i64 E)).heap[w.heap.size + 1]? = some (.cells #[.int .i64 E] 25) := by rw [heap_setCell_same _ (w.heap.size + 1) 0 _ _ _ a2]; rfl
  have c1 := ((Fr.refl [] _).alloc o).obj b1 (by simp)
  have c2 := ((Fr.refl [] _).alloc o).obj b2 (by simp)
  refine no_mark_ret (results_c2 rfl _ _ ⟨w.heap.size, 0, none⟩ ⟨w.heap.size + 1, 0, none⟩ _ _ hp hq (load_pF c1) (load_eF c2)) ?_
  exact .inl ⟨E, he, rfl, ((hf.setCell (p := ⟨w.heap.size, 0, none⟩) (fun h => absurd h (by simp)) _).setCell (p := ⟨w.heap.size + 1, 0, none⟩) (fun h => absurd h (by simp)) _).alloc o⟩
/-- between two rounds of Open's loop -/
def OpJ (R : LoopState → Option Code → Obj) (l D B F X4 C kd vr S M : Nat) (bod : List UInt8) (vc : Value) (w : World) (i : Nat) (A : World) : Prop :=
  A.heap[l]? = some (R .ready none) ∧ A.heap[D]? = some (.deferred (some [])) ∧ A.heap[B]? = some (.cells #[.pointer none] 62) ∧ A.heap[B + 1]? = some (.cells #[.int .i64 0] 25) ∧ A.heap[X4]? = some (.cells #[.pointer (some ⟨F, 0, none⟩)] 62) ∧
  A.heap[C]? = some (.cells #[vc] 37) ∧ A.heap[C + 1]? = some (.cells #[.int .i64 S] 3) ∧ Fr [] w A ∧ ∃ v X T, RFH A B F v X ⟨kd, vr, S, 0, T⟩ ∧ v.ownBlock ≠ some C ∧ T.length = i ∧ readR S M bod = preR T (readR S (M - i) (bod.drop (i * S)))
/-- where Open's loop was left -/
def OpX (R : LoopState → Option Code → Obj) (l D B : Nat) (b : List UInt8) (w : World) (A : World) : Prop :=
  ∃ E, A.heap[l]? = some (R .done (some .ret)) ∧ A.heap[D]? = some (.deferred (some [])) ∧ A.heap[B]? = some (.cells #[.pointer none] 62) ∧ A.heap[B + 1]? = some (.cells #[.int .i64 E] 25) ∧ openB b = .error E ∧ Fr [] w A
theorem op_leave {R : LoopState → Option Code → Obj} {l D : Nat} {Wb w : World} {b : List UInt8} {E : Int} {T : Ending → World → Prop} {a : Act} (h1 : Wb.heap[l]? = some (R .busy none)) (h2 : Wb.heap[D]? = some (.deferred (some []))) (h3 : Wb.heap[w.heap.size]? = some (.cells #[.pointer none] 62)) (h4 : Wb.heap[w.heap.size + 1]? = some (.cells #[.int .i64 0] 25))
    (hE : openB b = .error E) (hf : Fr [] w Wb) (hBD : w.heap.size + 1 < D) (hDl : D < l) (hT : ∀ W', OpX R l D w.heap.size b w W' → T (.returned (.bool false)) W') :
    rndPost l R T .ret a ((Wb.setCell ⟨w.heap.size, 0, none⟩ (.pointer none)).setCell ⟨w.heap.size + 1, 0, none⟩ (.int .i64 E)) := by
  have a1 : (Wb.setCell ⟨w.heap.size, 0, none⟩ (.pointer none)).heap[w.heap.size]? = some (.cells #[.pointer none] 62) := by rw [heap_setCell_same Wb w.heap.size 0 _ _ _ h3]; rfl
  have a2 := obj_p (k := 0) (v := .pointer none) h4 (show w.heap.size + 1 ≠ w.heap.size by omega)
  have b1 := obj_p (k := 0) (v := .int .i64 E) a1 (show w.heap.size ≠ w.heap.size + 1 by omega)
  have b2 : ((Wb.setCell ⟨w.heap.size, 0, none⟩ (.pointer none)).setCell ⟨w.heap.size + 1, 0, none⟩ (.int .i64 E)).heap[w.heap.size + 1]? = some (.cells #[.int .i64 E] 25) := by rw [heap_setCell_same _ (w.heap.size + 1) 0 _ _ _ a2]; rfl
  have hfw : Fr [w.heap.size, w.heap.size + 1] Wb ((Wb.setCell ⟨w.heap.size, 0, none⟩ (.pointer none)).setCell ⟨w.heap.size + 1, 0, none⟩ (.int .i64 E)) := ((Fr.refl _ _).setCell (by simp) _).setCell (by simp) _
  have c1 := hfw.obj h1 (by simp; omega)
  have c2 := hfw.obj h2 (by simp; omega)
  have hl := (Array.getElem?_eq_some_iff.1 c1).1
  refine ⟨c1, hT _ ⟨E, World.putObj_heap_same hl, ?_, ?_, ?_, hE, ?_⟩⟩
  · rw [World.putObj_heap_other (by omega)]; exact c2
  · rw [World.putObj_heap_other (by omega)]; exact b1
  · rw [World.putObj_heap_other (by omega)]; exact b2
  · exact (hf.next hfw (by intro i hi hlt; simp at hi; omega)).putObj (by intro h; have := hf.size; omega) _
theorem op_next {R : LoopState → Option Code → Obj} {l D F X4 C kd vr S M i : Nat} {bod : List UInt8} {vc v v' : Value} {w Wb w8 : World} {X : List LI} {T : Recs} {y : LI} {fn : FuncId} {tmps : Array Value} {ps : Array Tmp} {assign body : Code} {T' : Ending → World → Prop} {a : Act} (hR : R = lpR fn tmps ps assign body D)
    (h9 : RFH Wb w.heap.size F v X ⟨kd, vr, S, 0, T⟩) (h1 : Wb.heap[l]? = some (R .busy none)) (h2 : Wb.heap[D]? = some (.deferred (some []))) (h3 : Wb.heap[w.heap.size]? = some (.cells #[.pointer none] 62)) (h4 : Wb.heap[w.heap.size + 1]? = some (.cells #[.int .i64 0] 25)) (h5 : Wb.heap[X4]? = some (.cells #[.pointer (some ⟨F, 0, none⟩)] 62))
    (h6 : Wb.heap[C]? = some (.cells #[vc] 37)) (h7 : Wb.heap[C + 1]? = some (.cells #[.int .i64 S] 3)) (hfw : Fr [] w Wb) (hf8 : Fr (F :: v.ownBlock.toList) Wb w8) (h98 : RFH w8 w.heap.size F v' (X ++ [y]) ⟨kd, vr, S, 0, T ++ [y.o]⟩) (hb : v'.ownBlock = v.ownBlock ∨ ∃ g, v'.ownBlock = some g ∧ Wb.heap.size ≤ g) (hvC : v.ownBlock ≠ some C) (hTl : T.length = i)
    (hst : readR S M bod = preR (T ++ [y.o]) (readR S (M - (i + 1)) (bod.drop ((i + 1) * S)))) (z1 : w.heap.size + 1 < F) (z2 : F < X4) (z3 : X4 < C) (z4 : D = C + 2) (z5 : l = D + 1)
    (hT : ∀ W', OpJ R l D w.heap.size F X4 C kd vr S M bod vc w (i + 1) W' → W'.cell? ⟨C, 0, none⟩ = some vc → W'.cell? ⟨C + 1, 0, none⟩ = some (.int .i64 S) → T' (.returned (.bool true)) W') : rndPost l R T' .normal a w8 := by
  have hF : w.heap.size ≤ F := h9.base
  have n1 : l ∉ F :: v.ownBlock.toList := by
    intro hm
    rcases List.mem_cons.1 hm with hm | hm
    · omega
    · exact own_lp h9.recs.row (hR ▸ h1) (by simpa using hm)
  have n2 : D ∉ F :: v.ownBlock.toList := by
    intro hm
    rcases List.mem_cons.1 hm with hm | hm
    · omega
    · exact own_df h9.recs.row h2 (by simpa using hm)
  have n3 : w.heap.size ∉ F :: v.ownBlock.toList := by
    intro hm
    rcases List.mem_cons.1 hm with hm | hm
    · omega
    · exact own_ty h9.recs.row h3 (by decide) (by simpa using hm)
  have n4 : w.heap.size + 1 ∉ F :: v.ownBlock.toList := by
    intro hm
    rcases List.mem_cons.1 hm with hm | hm
    · omega
    · exact own_ty h9.recs.row h4 (by decide) (by simpa using hm)
  have n5 : X4 ∉ F :: v.ownBlock.toList := by
    intro hm
    rcases List.mem_cons.1 hm with hm | hm
    · omega
    · exact own_ty h9.recs.row h5 (by decide) (by simpa using hm)
  have n6 : C ∉ F :: v.ownBlock.toList := by
    intro hm
    rcases List.mem_cons.1 hm with hm | hm
    · omega
    · exact hvC (by simpa using hm)
  have n7 : C + 1 ∉ F :: v.ownBlock.toList := by
    intro hm
    rcases List.mem_cons.1 hm with hm | hm
    · omega
    · exact own_ty h9.recs.row h7 (by decide) (by simpa using hm)
  have k1 := hf8.obj h1 n1
  have hl8 := (Array.getElem?_eq_some_iff.1 k1).1
  have hwl : w.heap.size ≤ l := by omega
  have hC8 : C < Wb.heap.size := (Array.getElem?_eq_some_iff.1 h6).1
  have kC := hf8.obj h6 n6
  have kC1 := hf8.obj h7 n7
  have oC : (w8.putObj l (R .ready none)).heap[C]? = some (.cells #[vc] 37) := by rw [World.putObj_heap_other (by omega)]; exact kC
  have oC1 : (w8.putObj l (R .ready none)).heap[C + 1]? = some (.cells #[.int .i64 S] 3) := by rw [World.putObj_heap_other (by omega)]; exact kC1
  refine ⟨k1, hT _ ⟨World.putObj_heap_same hl8, ?_, ?_, ?_, ?_, oC, oC1, ?_, v', X ++ [y], T ++ [y.o], ?_, ?_, by rw [List.length_append, hTl]; rfl, hst⟩ (cell_of_row _ _ 0 _ _ _ oC) (cell_of_row _ _ 0 _ _ _ oC1)⟩
  · rw [World.putObj_heap_other (by omega)]; exact hf8.obj h2 n2
  · rw [World.putObj_heap_other (by omega)]; exact hf8.obj h3 n3
  · rw [World.putObj_heap_other (by omega)]; exact hf8.obj h4 n4
  · rw [World.putObj_heap_other (by omega)]; exact hf8.obj h5 n5
  · refine (hfw.next hf8 ?_).putObj (by omega) _
    intro i hi hlt
    rcases List.mem_cons.1 hi with hm | hm
    · omega
    · have := (own_lt h9.recs.row (show v.ownBlock = some i by simpa using hm)).1
      omega
  · exact h98.fr ((Fr.refl [l] w8).putObj (by simp) _) (fun i hi hm => rf_apart h98 hR k1 i hi (by simpa using hm))
  · rcases hb with hb | ⟨g, hb, hg⟩
    · rw [hb]; exact hvC
    · rw [hb]; simp; omega
theorem LL.offF {w : World} {B F : Nat} {v : Value} {X : List LI} {cs : Array Value} (h : LL w B v X) (ho : w.heap[F]? = some (.cells cs 93)) : F ∉ llB v X := by
  intro hi
  rcases llB_cases hi with hi | ⟨x, hx, hi⟩
  · exact own_ty h.row ho (by decide) hi
  · exact own_ty (h.dat x hx) ho (by decide) hi
theorem fileOf_err {kd vr sz : Nat} {x : Except Int Recs} {E : Int} (h : x = .error E) : fileOf kd vr sz x = .error E := by subst h; rfl
set_option maxRecDepth 100000 in
set_option maxHeartbeats 3200000 in
theorem Open_F (a : Option Addr) (c : Nat) (b : List UInt8) (w : World) (hl : b.length ≤ 140737488351300) (hc : b.length ≤ c) (hb : Bytes w a b) (hn : Nib w) :
    Calls Tryd.prog 32 #[.slice a b.length c] w fun e w' => OpenG w w' e b := by
  have HN := Lib.hid hn
  have HB := Lib.hid hb
  have HC := Lib.hid hc
  clear hb hn
  refine (callsIn_wide (n := 5)).1 ?_
  refine callsIn_of_wp_marks Tryd.func32 rfl trivial ?_ rfl
  simp only [Tryd.ntmps32, List.size_toArray, List.length_cons, List.length_nil, Nat.reduceAdd, Nat.reduceSub, Array.replicate_succ, Array.replicate_zero, List.push_toArray, List.append_toArray, List.nil_append, List.cons_append]
  refine wpIn_wide.2 ?_
  obtain ⟨wz, hwz⟩ : ∃ wz, wz = (w.alloc (.cells #[.pointer none] 62)).alloc (.cells #[.int .i64 0] 25) := ⟨_, rfl⟩
  go_upto_region 1 with fail
  rw [← hwz]
  have HFZ := Lib.hid (show Fr [] w wz by rw [hwz]; exact ((Fr.refl _ _).alloc _).alloc _)
  have HZ1 := Lib.hid (show wz.heap[w.heap.size]? = some (.cells #[.pointer none] 62) by rw [hwz]; exact ((Fr.refl [] _).alloc _).obj (heap_alloc_new w _) (by simp))
  have HZ2 := Lib.hid (show wz.heap[w.heap.size + 1]? = some (.cells #[.int .i64 0] 25) by
    rw [hwz]
    have := heap_alloc_new (w.alloc (.cells #[.pointer none] 62)) (.cells #[.int .i64 0] 25)
    rwa [World.size_alloc] at this)
  have HSZ := Lib.hid (show wz.heap.size = w.heap.size + 2 by rw [hwz]; simp)
  clear hwz
  by_cases h16 : b.length < 16
  · have hd : (b.length : Int) < 16 := by omega
    go_wp2_with fail
    refine (head_short a c b wz h16).mono ?_
    rintro e w1 ⟨rfl, rfl⟩
    have f1 : wz.frozen? ⟨w.heap.size, 0, none⟩ = false := frozen_of_row _ _ 0 _ _ HZ1.out
    have f2 : wz.frozen? ⟨w.heap.size + 1, 0, none⟩ = false := frozen_of_row _ _ 0 _ _ HZ2.out
    have g1 := cell_of_row _ _ 0 _ _ _ HZ1.out
    have g2 := cell_of_row _ _ 0 _ _ _ HZ2.out
    simp at g1 g2
    have hs1 : w.heap.size < wz.heap.size := by have := HSZ.out; omega
    have hs2 : w.heap.size + 1 < wz.heap.size := by have := HSZ.out; omega
    have HE : Hid (openB b = .error 10) := Lib.hid (by unfold openB; rw [if_pos h16])
    go_wp2_with fail
    exact open_err HE.out HZ1.out HZ2.out HFZ.out rfl rfl
  · obtain ⟨ab, ao, rfl, -⟩ := HB.out.at (by omega)
    have habw : ab < w.heap.size := by
      obtain ⟨b', o', e, hcs⟩ := HB.out.at (by omega)
      cases e
      exact World.block_lt_of_cell? w _ (hcs 0 (by omega))
    go_wp2_with fail
    refine (head_F (some ⟨ab, ao, none⟩) c b wz hl h16 HC.out (HB.out.keep HFZ.out) (nib_keep HN.out HFZ.out)).mono ?_
    rintro e w1 ⟨F, rfl, hF, hFl, hf1⟩
    have HF1 := Lib.hid (HFZ.out.trans hf1)
    have HFO := Lib.hid hF
    have HFL := Lib.hid hFl
    have HZ11 := Lib.hid (hf1.obj HZ1.out (by simp))
    have HZ21 := Lib.hid (hf1.obj HZ2.out (by simp))
    have f1 : w1.frozen? ⟨w.heap.size, 0, none⟩ = false := frozen_of_row _ _ 0 _ _ HZ11.out
    have f2 : w1.frozen? ⟨w.heap.size + 1, 0, none⟩ = false := frozen_of_row _ _ 0 _ _ HZ21.out
    have g1 := cell_of_row _ _ 0 _ _ _ HZ11.out
    have g2 := cell_of_row _ _ 0 _ _ _ HZ21.out
    simp at g1 g2
    have hs1 : w.heap.size < w1.heap.size := by have := hf1.size; have := HSZ.out; omega
    have hs2 : w.heap.size + 1 < w1.heap.size := by have := hf1.size; have := HSZ.out; omega
    obtain ⟨E, hE⟩ : ∃ E, E = hdE b := ⟨_, rfl⟩
    obtain ⟨M, hM⟩ : ∃ M, M = hN b 8 4 := ⟨_, rfl⟩
    rw [← hE, ← hM]
    have HEE := Lib.hid hE
    have HM := Lib.hid hM
    clear hF hFl hf1 hM
    by_cases hE0 : E = 0
    · subst hE0
      obtain ⟨o1, o2, o3, o4, o5⟩ := hdE_ok h16 hE.symm
      have HOP := Lib.hid o1
      obtain ⟨S, hS⟩ : ∃ S, S = hN b 6 2 := ⟨_, rfl⟩
      rw [← hS, ← HM.out] at o5
      rw [← hS] at o2 o3
      rw [← HM.out] at o4
      have HS := Lib.hid hS
      have HO5 := Lib.hid o5
      clear hE hS o1 o5
      obtain ⟨w2, hw2⟩ : ∃ w2, w2 = w1.alloc (.cells #[.pointer (some ⟨F, 0, none⟩)] 62) := ⟨_, rfl⟩
      go_upto_region 4 with fail
      rw [← hw2]
      have hf2 : Fr [] w1 w2 := by rw [hw2]; exact (Fr.refl _ _).alloc _
      have hx4 : w2.heap[w1.heap.size]? = some (.cells #[.pointer (some ⟨F, 0, none⟩)] 62) := by rw [hw2]; exact heap_alloc_new w1 _
      obtain ⟨X4, hX4⟩ : ∃ X4, X4 = w1.heap.size := ⟨_, rfl⟩
      rw [← hX4] at hx4 ⊢
      have hFX : F < X4 := by rw [hX4]; exact (Array.getElem?_eq_some_iff.1 HFO.out).1
      have HX4L := Lib.hid (show w.heap.size + 1 < X4 by omega)
      have hFO2 := hf2.obj HFO.out (by simp)
      obtain ⟨y0, y1, y2, y3, y4, y5⟩ := six hFO2
      have hz3 : w2.frozen? ⟨F, 3, none⟩ = false := frozen_of_row _ _ 3 _ _ hFO2
      have y6 : w2.cell? ⟨X4, 0, none⟩ = some (.pointer (some ⟨F, 0, none⟩)) := cell_of_row _ _ 0 _ _ _ hx4
      have HX4 := Lib.hid hx4
      have HFO2 := Lib.hid hFO2
      have HF12 := Lib.hid hf2
      have HF2 := Lib.hid (HF1.out.trans hf2)
      have hF2 : F < w2.heap.size := (Array.getElem?_eq_some_iff.1 hFO2).1
      have hX2 : X4 < w2.heap.size := (Array.getElem?_eq_some_iff.1 hx4).1
      have hmk := makeL M (by omega)
      clear hw2 hf2 hx4 hFO2 hX4 f1 f2 g1 g2 hs1 hs2
      have hkA : ∀ (W : World) (o : Obj), (W.cell? ⟨X4, 0, none⟩ = some (.pointer (some ⟨F, 0, none⟩)) ∧ (W.cell? ⟨F, 3, none⟩).isSome = true ∧ W.frozen? ⟨F, 3, none⟩ = false ∧ F < W.heap.size) → ((W.alloc o).cell? ⟨X4, 0, none⟩ = some (.pointer (some ⟨F, 0, none⟩)) ∧ ((W.alloc o).cell? ⟨F, 3, none⟩).isSome = true ∧ (W.alloc o).frozen? ⟨F, 3, none⟩ = false ∧ F < (W.alloc o).heap.size) := fun W o h => by
        obtain ⟨u, hu⟩ := Option.isSome_iff_exists.1 h.2.1
        refine ⟨((Fr.refl [] W).alloc o).cell h.1 (by simp), by rw [((Fr.refl [] W).alloc o).cell hu (by simp)]; rfl, ?_, by rw [World.size_alloc]; omega⟩
        rw [frozen_fr ((Fr.refl [] W).alloc o) h.2.2.2 (by simp)]
        exact h.2.2.1
      have hkS : ∀ (W : World) (v : Value), (W.cell? ⟨X4, 0, none⟩ = some (.pointer (some ⟨F, 0, none⟩)) ∧ (W.cell? ⟨F, 3, none⟩).isSome = true ∧ W.frozen? ⟨F, 3, none⟩ = false ∧ F < W.heap.size) → ((W.setCell ⟨F, 3, none⟩ v).cell? ⟨X4, 0, none⟩ = some (.pointer (some ⟨F, 0, none⟩)) ∧ ((W.setCell ⟨F, 3, none⟩ v).cell? ⟨F, 3, none⟩).isSome = true ∧ (W.setCell ⟨F, 3, none⟩ v).frozen? ⟨F, 3, none⟩ = false ∧ F < (W.setCell ⟨F, 3, none⟩ v).heap.size) := fun W v h => by
        obtain ⟨u, hu⟩ := Option.isSome_iff_exists.1 h.2.1
        refine ⟨((Fr.refl [F] W).setCell (by simp) v).cell h.1 (by simp; omega), by rw [World.cell?_setCell_same W _ v hu]; rfl, by simpa using h.2.2.1, by simpa using h.2.2.2⟩
      have hk1 : (w2.cell? ⟨X4, 0, none⟩ = some (.pointer (some ⟨F, 0, none⟩)) ∧ (w2.cell? ⟨F, 3, none⟩).isSome = true ∧ w2.frozen? ⟨F, 3, none⟩ = false ∧ F < w2.heap.size) := ⟨y6, by rw [y3]; rfl, hz3, hF2⟩
      have hkD : ∀ (W : World), (W.cell? ⟨X4, 0, none⟩ = some (.pointer (some ⟨F, 0, none⟩)) ∧ (W.cell? ⟨F, 3, none⟩).isSome = true ∧ W.frozen? ⟨F, 3, none⟩ = false ∧ F < W.heap.size) → (W.drew.cell? ⟨X4, 0, none⟩ = some (.pointer (some ⟨F, 0, none⟩)) ∧ (W.drew.cell? ⟨F, 3, none⟩).isSome = true ∧ W.drew.frozen? ⟨F, 3, none⟩ = false ∧ F < W.drew.heap.size) := fun W h => h
      have hk0 : (w2.drew.cell? ⟨X4, 0, none⟩ = some (.pointer (some ⟨F, 0, none⟩)) ∧ (w2.drew.cell? ⟨F, 3, none⟩).isSome = true ∧ w2.drew.frozen? ⟨F, 3, none⟩ = false ∧ F < w2.drew.heap.size) := ⟨by simpa using y6, by simp [y3], by simpa using hz3, by simpa using hF2⟩
      refine wp_region_noPanic ?_
      refine wp_region_held_drew (S := fun w' : World => w'.cell? ⟨X4, 0, none⟩ = some (.pointer (some ⟨F, 0, none⟩)) ∧ (w'.cell? ⟨F, 3, none⟩).isSome = true ∧ w'.frozen? ⟨F, 3, none⟩ = false ∧ F < w'.heap.size) (by kernel_rfl) (by exact hkD _ hk1) (fun hHd0 => ?_)
      refine wpAnyH_take (i := 0) (v := ?_) rfl (by kernel_rfl) (by kernel_rfl) (by kernel_rfl) (fun _ _ _ h => h) (Or.inl ⟨by rfl, ?_⟩) (by assumption) ?_
      rotate_left
      · (intro w hSw; (try dsimp only at hSw); go_simp; (try with_reducible rfl))
      try simp only [Act.put, List.setIfInBounds_toArray, List.set_cons_zero, List.set_cons_succ, List.getElem_toArray, List.getElem_cons_zero, List.getElem_cons_succ]
      refine wpAnyH_take (i := 1) (v := ?_) rfl (by kernel_rfl) (by kernel_rfl) (by kernel_rfl) (fun _ _ _ h => h) (Or.inl ⟨by rfl, ?_⟩) (by assumption) ?_
      rotate_left
      · (intro w hSw; (try dsimp only at hSw); go_simp; (try with_reducible rfl))
      try simp only [Act.put, List.setIfInBounds_toArray, List.set_cons_zero, List.set_cons_succ, List.getElem_toArray, List.getElem_cons_zero, List.getElem_cons_succ]
      refine wpAnyH_ready (rs := [2]) (by kernel_rfl) (by simp) ?_
      refine AllReadyH.cons rfl (fun K hK => ?_) AllReadyH.nil
      go_simp
      refine hK.out _ _ (by exact hkA _ _ hHd0) (fun hHd1 => ?_)
      clear hK K hHd0
      try simp only [Act.put, List.setIfInBounds_toArray, List.set_cons_zero, List.set_cons_succ, List.getElem_toArray, List.getElem_cons_zero, List.getElem_cons_succ]
      refine wpAnyH_take (i := 3) (v := ?_) rfl (by kernel_rfl) (by kernel_rfl) (by kernel_rfl) (fun _ _ _ h => h) (Or.inl ⟨by rfl, ?_⟩) (by assumption) ?_
      rotate_left
      · (intro w hSw; (try dsimp only at hSw); go_simp; (try with_reducible rfl))
      try simp only [Act.put, List.setIfInBounds_toArray, List.set_cons_zero, List.set_cons_succ, List.getElem_toArray, List.getElem_cons_zero, List.getElem_cons_succ]
      refine wpAnyH_take (i := 4) (v := ?_) rfl (by kernel_rfl) (by kernel_rfl) (by kernel_rfl) (fun _ _ _ h => h) (Or.inl ⟨by rfl, ?_⟩) (by assumption) ?_
      rotate_left
      · (intro w hSw; (try dsimp only at hSw); go_simp; (try with_reducible rfl))
      try simp only [Act.put, List.setIfInBounds_toArray, List.set_cons_zero, List.set_cons_succ, List.getElem_toArray, List.getElem_cons_zero, List.getElem_cons_succ]
      refine wpAnyH_ready (rs := [5]) (by kernel_rfl) (by simp) ?_
      refine AllReadyH.cons rfl (fun K hK => ?_) AllReadyH.nil
      go_simp
      refine hK.out _ _ (by exact hkD _ (hkA _ _ (hkS _ _ hk1))) (fun hHd2 => ?_)
      clear hK K hHd1
      try simp only [Act.put, List.setIfInBounds_toArray, List.set_cons_zero, List.set_cons_succ, List.getElem_toArray, List.getElem_cons_zero, List.getElem_cons_succ]
      refine wpAnyH_done (by kernel_rfl) ?_ _
      refine NoPanic.normal ?_
      generalize hW3 : World.drew _ = w3
      obtain ⟨N, hNd⟩ : ∃ N, N = b.length - 16 := ⟨_, rfl⟩
      have HNN := Lib.hid hNd
      have HNM := Lib.hid (show N = M * S by have := HO5.out; omega)
      obtain ⟨g, hg⟩ : ∃ g, g = w2.heap.size := ⟨_, rfl⟩
      have hw20 : w.heap.size ≤ g := by rw [hg]; exact HF2.out.size
      have t1 : w3.heap[F]? = some (.cells #[.int .i64 (hN b 4 1 : Nat), .int .i64 (hN b 5 1 : Nat), .int .i64 (S : Nat), .slice (some ⟨g, 0, none⟩) 0 M, .int .i64 0, .int .i64 0] 93) := by
        rw [← hW3, HS.out, hg]
        refine (((Fr.refl [] _).alloc _).drew).obj ?_ (by simp)
        rw [heap_setCell_same w2 F 3 _ _ _ HFO2.out]
        rfl
      have t2 : LL w3 w.heap.size (.slice (some ⟨g, 0, none⟩) 0 M) [] := by
        have h := LL.made (w2.setCell ⟨F, 3, none⟩ (.slice (some ⟨w2.heap.size, 0, none⟩) 0 M)) w.heap.size M (by simpa using HF2.out.size) (by omega)
        rw [show (w2.setCell ⟨F, 3, none⟩ (.slice (some ⟨w2.heap.size, 0, none⟩) 0 M)).heap.size = g by rw [hg]; simp] at h
        rw [← hW3]
        exact h.keep ((Fr.refl [] _).drew)
      have hf3 : Fr [F] w2 w3 := by rw [← hW3]; exact (((Fr.refl [F] w2).setCell (by simp) _).alloc _).drew
      have t4 := hf3.obj HX4.out (by simp; omega)
      have hg3 : g < w3.heap.size := (t2.lt g (llB_v rfl)).2
      have t5 : Fr [] w w3 := HF2.out.next hf3 (by intro i hi hlt; simp at hi; have := HFL.out; have := HSZ.out; omega)
      have t6 := hf3.obj (HF12.out.obj HZ11.out (by simp)) (by have := HFL.out; have := HSZ.out; simp; omega)
      have t7 := hf3.obj (HF12.out.obj HZ21.out (by simp)) (by have := HFL.out; have := HSZ.out; simp; omega)
      have u6 : w3.cell? ⟨X4, 0, none⟩ = some (.pointer (some ⟨F, 0, none⟩)) := cell_of_row _ _ 0 _ _ _ t4
      have u2 : w3.cell? ⟨F, 2, none⟩ = some (.int .i64 (S : Int)) := cell_of_row _ _ 2 _ _ _ t1
      have HT1 := Lib.hid t1
      have HT2 := Lib.hid t2
      have HT4 := Lib.hid t4
      have HT5 := Lib.hid t5
      have HT6 := Lib.hid t6
      have HT7 := Lib.hid t7
      have e1 : (16 : Int) ≤ (b.length : Int) := by omega
      have e2 : (16 : Int) ≤ (c : Int) := by omega
      clear hW3 hg t1 t2 t4 t5 t6 t7 hf3 y0 y1 y2 y3 y4 y5 y6 hz3 hkA hkS hkD hk1 hmk
      go_upto_region 5 with fail
      refine wp_region_noPanic ?_
      clear hHd2
      refine wp_region_held_drew (S := fun w' : World => w'.cell? ⟨X4, 0, none⟩ = some (.pointer (some ⟨F, 0, none⟩)) ∧ w'.cell? ⟨F, 2, none⟩ = some (.int .i64 (S : Int))) (by kernel_rfl) (by exact ⟨by simpa using u6, by simpa using u2⟩) (fun hHd3 => ?_)
      refine wpAnyH_take (i := 0) (v := ?_) rfl (by kernel_rfl) (by kernel_rfl) (by kernel_rfl) (fun _ _ _ h => h) (Or.inl ⟨by rfl, ?_⟩) (by assumption) ?_
      rotate_left
      · (intro w hSw; (try dsimp only at hSw); go_simp; (try with_reducible rfl))
      try simp only [Act.put, List.setIfInBounds_toArray, List.set_cons_zero, List.set_cons_succ, List.getElem_toArray, List.getElem_cons_zero, List.getElem_cons_succ]
      refine wpAnyH_take (i := 1) (v := ?_) rfl (by kernel_rfl) (by kernel_rfl) (by kernel_rfl) (fun _ _ _ h => h) (Or.inl ⟨by rfl, ?_⟩) (by assumption) ?_
      rotate_left
      · (intro w hSw; (try dsimp only at hSw); go_simp; (try with_reducible rfl))
      try simp only [Act.put, List.setIfInBounds_toArray, List.set_cons_zero, List.set_cons_succ, List.getElem_toArray, List.getElem_cons_zero, List.getElem_cons_succ]
      refine wpAnyH_take (i := 2) (v := ?_) rfl (by kernel_rfl) (by kernel_rfl) (by kernel_rfl) (fun _ _ _ h => h) (Or.inl ⟨by rfl, ?_⟩) (by assumption) ?_
      rotate_left
      · (intro w hSw; (try dsimp only at hSw); go_simp; (try with_reducible rfl))
      try simp only [Act.put, List.setIfInBounds_toArray, List.set_cons_zero, List.set_cons_succ, List.getElem_toArray, List.getElem_cons_zero, List.getElem_cons_succ]
      refine wpAnyH_take (i := 3) (v := ?_) rfl (by kernel_rfl) (by kernel_rfl) (by kernel_rfl) (fun _ _ _ h => h) (Or.inl ⟨by rfl, ?_⟩) (by assumption) ?_
      rotate_left
      · (intro w hSw; (try dsimp only at hSw); go_simp; (try with_reducible rfl))
      try simp only [Act.put, List.setIfInBounds_toArray, List.set_cons_zero, List.set_cons_succ, List.getElem_toArray, List.getElem_cons_zero, List.getElem_cons_succ]
      refine wpAnyH_take (i := 4) (v := ?_) rfl (by kernel_rfl) (by kernel_rfl) (by kernel_rfl) (fun _ _ _ h => h) (Or.inl ⟨by rfl, ?_⟩) (by assumption) ?_
      rotate_left
      · (intro w hSw; (try dsimp only at hSw); go_simp; (try with_reducible rfl))
      try simp only [Act.put, List.setIfInBounds_toArray, List.set_cons_zero, List.set_cons_succ, List.getElem_toArray, List.getElem_cons_zero, List.getElem_cons_succ]
      refine wpAnyH_take (i := 5) (v := ?_) rfl (by kernel_rfl) (by kernel_rfl) (by kernel_rfl) (fun _ _ _ h => h) (Or.inl ⟨by rfl, ?_⟩) (by assumption) ?_
      rotate_left
      · (intro w hSw; (try dsimp only at hSw); go_simp; (try with_reducible rfl))
      try simp only [Act.put, List.setIfInBounds_toArray, List.set_cons_zero, List.set_cons_succ, List.getElem_toArray, List.getElem_cons_zero, List.getElem_cons_succ]
      refine wpAnyH_ready (rs := [6]) (by kernel_rfl) (by simp) ?_
      refine AllReadyH.cons rfl (fun K hK => ?_) AllReadyH.nil
      go_simp
      rw [← HNN.out]
      generalize hA1 : (if c = 16 then some (⟨ab, ao, none⟩ : Addr) else some ⟨ab, ao + 16, none⟩) = ad1
      refine (Chunk_any (.slice ad1 N (c - 16)) N (c - 16) ad1 S w3.drew (by omega)).mono ?_
      rintro e w4 ⟨rfl, k1, k2, k3, k4⟩
      go_simp
      refine hK.out _ _ (by exact ⟨k3.cell (by simpa using u6) (by simp), k3.cell (by simpa using u2) (by simp)⟩) (fun hHd4 => ?_)
      clear hK K hHd3
      try simp only [Act.put, List.setIfInBounds_toArray, List.set_cons_zero, List.set_cons_succ, List.getElem_toArray, List.getElem_cons_zero, List.getElem_cons_succ]
      refine wpAnyH_done (by kernel_rfl) ?_ _
      refine NoPanic.normal ?_
      have HK1 := Lib.hid (show w4.heap[w3.heap.size]? = some (.cells #[.slice ad1 N (c - 16)] 37) from k1)
      have HK2 := Lib.hid (show w4.heap[w3.heap.size + 1]? = some (.cells #[.int .i64 S] 3) from k2)
      have HK3 := Lib.hid (((Fr.refl [] w3).drew).trans k3)
      have HK4 := Lib.hid (show w4.heap.size = w3.heap.size + 2 from k4)
      have HBD : Hid (∃ a1, ad1 = some ⟨ab, a1, none⟩ ∧ Bytes w (some ⟨ab, a1, none⟩) (b.drop 16)) := Lib.hid (by
        by_cases hc16 : c = 16
        · rw [if_pos hc16] at hA1
          refine ⟨ao, hA1.symm, ?_⟩
          rw [List.drop_eq_nil_of_le (by omega)]
          exact .inl rfl
        · rw [if_neg hc16] at hA1
          refine ⟨ao + 16, hA1.symm, ?_⟩
          have h := HB.out.sub 16 (b.length - 16) (by omega)
          rwa [List.take_of_length_le (by rw [List.length_drop]; omega)] at h)
      clear k1 k2 k3 k4 hA1 u6 u2 e1 e2 hHd4
      obtain ⟨a1, rfl, hbd⟩ := HBD.out
      have HBD1 := Lib.hid hbd
      obtain ⟨C, hCC⟩ : ∃ C, C = w3.heap.size := ⟨_, rfl⟩
      rw [← hCC] at HK1 HK2 HK4 ⊢
      have hgC : g < C := by omega
      have HXC := Lib.hid (show X4 < C by have := (Array.getElem?_eq_some_iff.1 HT4.out).1; omega)
      have HBF := Lib.hid (show w.heap.size + 1 < F by have := HFL.out; have := HSZ.out; omega)
      clear hbd HBD hCC
      go_wp2_with fail
      refine (wpIn_wide (n := 5)).1 ?_
      refine range_wide rfl (enters_of Tryd.func72 (by kernel_rfl) rfl) ?_
      intro fn W1 hlr hD hf1 hsz1
      obtain ⟨D, hDD⟩ : ∃ D, D = w4.heap.size := ⟨_, rfl⟩
      rw [← hDD] at hlr hD hsz1 ⊢
      have hDC : D = C + 2 := by rw [hDD]; exact HK4.out
      have HDC := Lib.hid hDC
      obtain ⟨R, hR, hlr2⟩ := lp_take hlr
      have hf3 : Fr [] w3 W1 := HK3.out.trans hf1
      have HFW : Hid (Fr [] w W1) := Lib.hid (HT5.out.trans hf3)
      have k0 := hN_lt b 4 1
      have k1 := hN_lt b 5 1
      obtain ⟨bod, hbod⟩ : ∃ bod, bod = b.drop 16 := ⟨_, rfl⟩
      rw [← hbod] at HBD1
      rw [← HS.out, ← HM.out, ← hbod] at HOP
      have hbl : bod.length = M * S := by rw [hbod, List.length_drop]; have := HO5.out; omega
      have HBL := Lib.hid hbl
      obtain ⟨kd, hkd⟩ : ∃ kd, kd = hN b 4 1 := ⟨_, rfl⟩
      obtain ⟨vr, hvr⟩ : ∃ vr, vr = hN b 5 1 := ⟨_, rfl⟩
      rw [← hkd, ← hvr] at HOP HT1
      rw [← hkd] at k0
      rw [← hvr] at k1
      refine (Chunk1_in 4 (D + 1) C (C + 1) ab a1 (c - 16) S M N W1 (OpJ R (D + 1) D w.heap.size F X4 C kd vr S M bod (.slice (some ⟨ab, a1, none⟩) N (c - 16)) w) (OpX R (D + 1) D w.heap.size b w) (by omega) (by omega) HNM.out (by have := HNN.out; omega) (by have := HNN.out; have := HC.out; omega) ?_ ?_ ?_ ?_).mono ?_
      · exact cell_of_row _ _ 0 _ _ _ (hf1.obj HK1.out (by simp))
      · exact cell_of_row _ _ 0 _ _ _ (hf1.obj HK2.out (by simp))
      · refine ⟨hlr2, hD, hf3.obj HT6.out (by simp), hf3.obj HT7.out (by simp), hf3.obj HT4.out (by simp), hf1.obj HK1.out (by simp), hf1.obj HK2.out (by simp), HFW.out, .slice (some ⟨g, 0, none⟩) 0 M, [], [], ?_, ?_, rfl, ?_⟩
        · exact ⟨hf3.obj HT1.out (by simp), HT2.out.keep hf3, rfl, ⟨by show kd ≤ 255; omega, by show vr ≤ 255; omega, o2, o3, by simp, Sized.nil _, fun i h => absurd h (by simp)⟩, by have := HBF.out; omega⟩
        · simp [Value.ownBlock]; omega
        · rw [preR_nil]; simp
      · intro i A W2 hi hJ hfA
        have HJ := Lib.hid hJ
        have HFA := Lib.hid hfA
        have HR := Lib.hid hR
        have hl2 := hfA.obj hJ.1 (by simp)
        rw [hR] at hl2
        clear hlr hlr2 hD hf1 hf3 hJ hfA hR hDD hDC hbod hbl hkd hvr hsz1 hNd
        refine yield_wide hl2 rfl ?_
        have HL2 := Lib.hid hl2
        clear hl2
        gi_wp2_with fail
        refine ⟨HL2.out, ?_⟩
        generalize hWb : World.putObj W2 (D + 1) _ = Wb
        obtain ⟨h1, h2, h3, h4, h5, h6, h7, h8, v, X, T, h9, hvC, hTl, hrd⟩ := HJ.out
        have hfb : Fr [D + 1] A Wb := by rw [← hWb]; exact (HFA.out.mono (by simp)).putObj (by simp) _
        have hlb := put_take hWb (Array.getElem?_eq_some_iff.1 HL2.out).1
        rw [← HR.out] at hlb
        clear hWb HL2
        obtain ⟨hdc, hbf, hxc⟩ : D = C + 2 ∧ w.heap.size + 1 < F ∧ X4 < C := ⟨HDC.out, HBF.out, HXC.out⟩
        have hab : ab < w.heap.size := habw
        have g2 := hfb.obj h2 (by simp)
        have g3 := hfb.obj h3 (by simp; omega)
        have g4 := hfb.obj h4 (by simp; omega)
        have g5 := hfb.obj h5 (by simp; omega)
        have g6 := hfb.obj h6 (by simp; omega)
        have g7 := hfb.obj h7 (by simp; omega)
        have hsz : w.heap.size ≤ A.heap.size := h8.size
        have hDA : D + 1 < A.heap.size := (Array.getElem?_eq_some_iff.1 h1).1
        have g9 := h9.fr hfb (fun i hi hm => rf_apart h9 HR.out h1 i hi (by simpa using hm))
        have hfw : Fr [] w Wb := h8.next hfb (by intro i hi hlt; simp at hi; omega)
        obtain ⟨r, hr⟩ : ∃ r, r = (bod.drop (i * S)).take S := ⟨_, rfl⟩
        have hiS : i * S + S ≤ bod.length := by
          have h := Nat.mul_le_mul_right S (show i + 1 ≤ M by omega)
          rw [Nat.add_mul, Nat.one_mul] at h
          have := HBL.out
          omega
        have hrl : r.length = S := by rw [hr, List.length_take, List.length_drop]; omega
        have hrb : Bytes Wb (some ⟨ab, a1 + i * S, none⟩) r := by
          have h := (HBD1.out.keep hfw).sub (i * S) S (by omega)
          rwa [← hr] at h
        have hst := readR_at hrd hi
        rw [← hr] at hst
        obtain ⟨Q, hQ⟩ : ∃ Q, Q = a1 + i * S := ⟨_, rfl⟩
        rw [← hQ] at hrb ⊢
        obtain ⟨x, hx⟩ : ∃ x, x = r.getD 0 0 := ⟨_, rfl⟩
        have hxb : Wb.cell? ⟨ab, Q, none⟩ = some (B8 x) := by
          obtain ⟨b', o', e, hcs⟩ := hrb.at (by omega)
          cases e
          have h := hcs 0 (by omega)
          rw [← hx] at h
          simpa using h
        rw [B8] at hxb
        have HHLB := Lib.hid hlb
        have HG2 := Lib.hid g2
        have HG3 := Lib.hid g3
        have HG4 := Lib.hid g4
        have HG5 := Lib.hid g5
        have HG6 := Lib.hid g6
        have HG7 := Lib.hid g7
        have HG9 := Lib.hid g9
        have HFBW := Lib.hid hfw
        have HRB := Lib.hid hrb
        have HST := Lib.hid hst
        have HRL := Lib.hid hrl
        have HX := Lib.hid hx
        have HVC := Lib.hid hvC
        have HTL := Lib.hid hTl
        have hWD : D + 1 < Wb.heap.size := (Array.getElem?_eq_some_iff.1 hlb).1
        have p0 := cell_of_row _ _ 0 _ _ _ g3
        have p1 := cell_of_row _ _ 0 _ _ _ g4
        simp at p0 p1
        have f0 := frozen_of_row _ _ 0 _ _ g3
        have f1 := frozen_of_row _ _ 0 _ _ g4
        have hB1 : w.heap.size < Wb.heap.size := by omega
        have hB2 : w.heap.size + 1 < Wb.heap.size := by omega
        have hQ0 : (0 : Int) < (S : Int) := by omega
        have HHFA := HFA
        clear h1 h2 h3 h4 h5 h6 h7 h8 h9 hvC hTl hrd hfb hlb g2 g3 g4 g5 g6 g7 g9 hfw hr hiS hrl hrb hst hQ hx HFA hdc hab habw hsz hDA HJ
        clear HFZ HZ1 HZ2 HSZ HFO HF1 HFL HZ11 HZ21 HEE HX4 HFO2 HF12 HF2 hF2 hX2 hk0 HT1 HT2 HT4 HT5 HT6 HT7 HK1 HK2 HK3 HK4 HNN HNM HFW HX4L HB HC HN
        have hX65 : X.length ≤ 65536 := by rw [HG9.out.len]; exact HG9.out.ok.len
        obtain ⟨va, vc, rfl, -⟩ := HG9.out.recs.sl
        by_cases hx1 : 1 < x.toNat
        · have hg1 : (1 : Int) < I8 x := by unfold I8; omega
          have HE : Hid (openB b = .error 93) := Lib.hid (by
            rw [HOP.out]
            refine fileOf_err ?_
            rw [HST.out]
            unfold oneR
            rw [← HX.out, if_pos hx1]
            rfl)
          clear hx1
          gi_wp2_with fail
          rw [← HR.out]
          exact op_leave HHLB.out HG2.out HG3.out HG4.out HE.out HFBW.out (by have := HDC.out; have := HXC.out; have := HBF.out; omega) (by omega) (fun W' h => .inr ⟨rfl, h⟩)
        · by_cases hx0 : x.toNat = 1
          · have hI : I8 x = 1 := by unfold I8; omega
            rw [hI] at hxb
            obtain ⟨d, hd⟩ : ∃ d, d = r.drop 1 := ⟨_, rfl⟩
            have HSTA : Hid (readR S M bod = preR (T ++ [some d]) (readR S (M - (i + 1)) (bod.drop ((i + 1) * S)))) := Lib.hid (by
              rw [HST.out]
              unfold oneR
              rw [← HX.out, if_neg hx1, if_pos hx0, ← hd]
              exact preR_snoc _ _ _)
            have HDL := Lib.hid (show d.length + 1 = S by rw [hd, List.length_drop]; have := HRL.out; omega)
            have HDB : Hid (Bytes Wb.drew (some ⟨ab, Q + 1, none⟩) d) := Lib.hid (by
              have h := (HRB.out.keep ((Fr.refl [] Wb).drew)).sub 1 (r.length - 1) (by have := HRL.out; omega)
              rwa [List.take_of_length_le (by rw [List.length_drop]; omega), ← hd] at h)
            have hdl : S - 1 = d.length := by have := HDL.out; omega
            clear hx1 hx0 hI hd
            have y3c : ∀ W, Fr [] Wb W → W.cell? ⟨F, 3, none⟩ = some (.slice va X.length vc) := fun W hf => hf.cell (cell_of_row _ _ 3 _ _ _ HG9.out.obj) (by simp)
            have HKP := Lib.hid (KP.of HG9.out.obj HG5.out)
            have HNEX := Lib.hid (show X4 ≠ F by omega)
            have y3 := cell_of_row _ _ 3 _ _ _ HG9.out.obj
            have y5 := cell_of_row _ _ 0 _ _ _ HG5.out
            simp at y3 y5
            have hS1 : ¬ S = 1 := by omega
            have hS2 : (1 : Int) ≤ (S : Int) := by omega
            gi_wp2_with fail
            refine region_round (S := fun w' : World => w'.cell? ⟨X4, 0, none⟩ = some (.pointer (some ⟨F, 0, none⟩)) ∧ (w'.cell? ⟨F, 3, none⟩).isSome = true ∧ w'.frozen? ⟨F, 3, none⟩ = false ∧ F < w'.heap.size) (by kernel_rfl) (by kernel_rfl) (by exact HKP.out.drew) (fun hHd0 => ?_)
            refine wpAnyH_take (i := 0) (v := ?_) rfl (by kernel_rfl) (by kernel_rfl) (by kernel_rfl) (fun _ _ _ h => h) (Or.inl ⟨by rfl, ?_⟩) (by assumption) ?_
            rotate_left
            · (intro w hSw; (try dsimp only at hSw); go_simp; (try with_reducible rfl))
            try simp only [Act.put, List.setIfInBounds_toArray, List.set_cons_zero, List.set_cons_succ, List.getElem_toArray, List.getElem_cons_zero, List.getElem_cons_succ]
            refine wpAnyH_take (i := 1) (v := ?_) rfl (by kernel_rfl) (by kernel_rfl) (by kernel_rfl) (fun _ _ _ h => h) (Or.inl ⟨by rfl, ?_⟩) (by assumption) ?_
            rotate_left
            · (intro w hSw; (try dsimp only at hSw); go_simp; (try with_reducible rfl))
            try simp only [Act.put, List.setIfInBounds_toArray, List.set_cons_zero, List.set_cons_succ, List.getElem_toArray, List.getElem_cons_zero, List.getElem_cons_succ]
            refine wpAnyH_take (i := 2) (v := ?_) rfl (by kernel_rfl) (by kernel_rfl) (by kernel_rfl) (fun _ _ _ h => h) (Or.inl ⟨by rfl, ?_⟩) (by assumption) ?_
            rotate_left
            · (intro w hSw; (try dsimp only at hSw); go_simp; (try with_reducible rfl))
            try simp only [Act.put, List.setIfInBounds_toArray, List.set_cons_zero, List.set_cons_succ, List.getElem_toArray, List.getElem_cons_zero, List.getElem_cons_succ]
            refine wpAnyH_take (i := 3) (v := ?_) rfl (by kernel_rfl) (by kernel_rfl) (by kernel_rfl) (fun _ _ _ h => h) (Or.inl ⟨by rfl, ?_⟩) (by assumption) ?_
            rotate_left
            · (intro w hSw; (try dsimp only at hSw); go_simp; (try with_reducible rfl))
            try simp only [Act.put, List.setIfInBounds_toArray, List.set_cons_zero, List.set_cons_succ, List.getElem_toArray, List.getElem_cons_zero, List.getElem_cons_succ]
            refine wpAnyH_take (i := 5) (v := ?_) rfl (by kernel_rfl) (by kernel_rfl) (by kernel_rfl) (fun _ _ _ h => h) (Or.inl ⟨by rfl, ?_⟩) (by assumption) ?_
            rotate_left
            · (intro w hSw; (try dsimp only at hSw); go_simp; (try with_reducible rfl))
            try simp only [Act.put, List.setIfInBounds_toArray, List.set_cons_zero, List.set_cons_succ, List.getElem_toArray, List.getElem_cons_zero, List.getElem_cons_succ]
            refine wpAnyH_take (i := 6) (v := ?_) rfl (by kernel_rfl) (by kernel_rfl) (by kernel_rfl) (fun _ _ _ h => h) (Or.inl ⟨by rfl, ?_⟩) (by assumption) ?_
            rotate_left
            · (intro w hSw; (try dsimp only at hSw); go_simp; (try with_reducible rfl))
            try simp only [Act.put, List.setIfInBounds_toArray, List.set_cons_zero, List.set_cons_succ, List.getElem_toArray, List.getElem_cons_zero, List.getElem_cons_succ]
            refine wpAnyH_ready (rs := [4, 7]) (by kernel_rfl) (by simp) ?_
            refine (AllReadyH.cons rfl (fun K hK => ?_) (AllReadyH.cons rfl (fun K hK => ?_) AllReadyH.nil))
            · go_simp
              refine hK.out _ _ (by exact HKP.out.drew) (fun hHd1 => ?_)
              clear hK K hHd0
              try simp only [Act.put, List.setIfInBounds_toArray, List.set_cons_zero, List.set_cons_succ, List.getElem_toArray, List.getElem_cons_zero, List.getElem_cons_succ]
              refine wpAnyH_ready (rs := [7]) (by kernel_rfl) (by simp) ?_
              refine (AllReadyH.cons rfl (fun K hK => ?_) AllReadyH.nil)
              go_simp
              refine (Clone_some ⟨ab, Q + 1, none⟩ d.length d Wb.drew (by omega) HDB.out).mono ?_
              rintro e w5 ⟨cv, rfl, hcv⟩
              obtain ⟨gd, gc, rfl, hgd, hgl, hco, hcf⟩ := hcv
              have HCO := Lib.hid hco
              have HCF := Lib.hid (((Fr.refl [] Wb).drew).trans hcf)
              have HGD := Lib.hid (show Wb.heap.size ≤ gd from hgd)
              have HGL := Lib.hid hgl
              have y35 := y3c w5 HCF.out
              have y36 : ∀ o, (w5.alloc o).cell? ⟨F, 3, none⟩ = some (.slice va X.length vc) := fun o => y3c _ (HCF.out.alloc o)
              clear hco hcf hgd hgl
              go_simp
              refine hK.out _ _ (by exact HKP.out.fr HCF.out) (fun hHd2 => ?_)
              clear hK K hHd1
              try simp only [Act.put, List.setIfInBounds_toArray, List.set_cons_zero, List.set_cons_succ, List.getElem_toArray, List.getElem_cons_zero, List.getElem_cons_succ]
              refine wpAnyH_ready (rs := [8]) (by kernel_rfl) (by simp) ?_
              refine (AllReadyH.cons rfl (fun K hK => ?_) AllReadyH.nil)
              go_simp
              refine hK.out _ _ (by exact KP.alloc (HKP.out.fr HCF.out) _) (fun hHd3 => ?_)
              clear hK K hHd2
              try simp only [Act.put, List.setIfInBounds_toArray, List.set_cons_zero, List.set_cons_succ, List.getElem_toArray, List.getElem_cons_zero, List.getElem_cons_succ]
              refine wpAnyH_ready (rs := [9]) (by kernel_rfl) (by simp) ?_
              refine (AllReadyH.cons rfl (fun K hK => ?_) AllReadyH.nil)
              have HROW5 := Lib.hid (own_fr HG9.out.recs.row ((HCF.out).alloc (.cells #[.slice (some ⟨gd, 0, none⟩) d.length gc] 37)) (by simp))
              have HB5 : Hid (w.heap.size ≤ (w5.alloc (.cells #[.slice (some ⟨gd, 0, none⟩) d.length gc] 37)).heap.size) := Lib.hid (by have := HCF.out.size; have := HFBW.out.size; rw [World.size_alloc]; omega)
              refine step_appS rfl (.tmp 53) (.tmp 57) 91 rfl w.heap.size 37 (.slice none 0 0) 1 24 Tryd.underlying91 infoLB rfl (by decide) (.slice va X.length vc) X.length (X.map LI.v) (by simp [Act.eval, Act.put]) HROW5.out (some ⟨w5.heap.size, 0, none⟩) 1 1 [.slice (some ⟨gd, 0, none⟩) d.length gc] (by simp [Act.eval, Act.put]) rfl (bx_news (heap_alloc_new w5 _)) (fun h => by cases h) (by simp [Value.oneCell']) (by unfold maxLen; omega) (by omega) HB5.out ?_
              intro v' w6 happ
              obtain ⟨va2, vc2, rfl⟩ := own_slR happ.own
              have HG9A := Lib.hid (HG9.out.keep (HCF.out.alloc (.cells #[.slice (some ⟨gd, 0, none⟩) d.length gc] 37)))
              have HY6 := Lib.hid (own_base (own_fr HCO.out ((Fr.refl [] w5).alloc (.cells #[.slice (some ⟨gd, 0, none⟩) d.length gc] 37)) (by simp)) (show w.heap.size ≤ Wb.drew.heap.size from HFBW.out.size))
              have hra := rf_app (y := ⟨some ⟨gd, 0, none⟩, gc, d⟩) HG9A.out HY6.out happ
              have HRA := Lib.hid hra
              have HOB6 := Lib.hid hra.1
              have zc := cell_of_row _ _ 3 _ _ _ hra.1
              have zf := frozen_of_row _ _ 3 _ _ hra.1
              simp at zc
              have zs := (Array.getElem?_eq_some_iff.1 hra.1).1
              have HXN : Hid (X4 ∉ (Value.slice va X.length vc).ownBlock.toList) := Lib.hid (fun hm => own_ty HG9.out.recs.row HG5.out (by decide) (by simpa using hm))
              have HX6 := Lib.hid ((app_frZ happ).obj ((HCF.out.alloc (.cells #[.slice (some ⟨gd, 0, none⟩) d.length gc] 37)).obj HG5.out (by simp)) HXN.out)
              have HAPB := Lib.hid (app_frZ happ)
              clear hra happ
              refine hK.out _ _ (by exact KP.of HOB6.out HX6.out) (fun hHd4 => ?_)
              clear hK K hHd3
              try simp only [Act.put, List.setIfInBounds_toArray, List.set_cons_zero, List.set_cons_succ, List.getElem_toArray, List.getElem_cons_zero, List.getElem_cons_succ]
              refine wpAnyH_take (i := 10) (v := ?_) rfl (by kernel_rfl) (by kernel_rfl) (by kernel_rfl) (fun _ _ _ h => h) (Or.inl ⟨by rfl, ?_⟩) (by assumption) ?_
              rotate_left
              · (intro w hSw; (try dsimp only at hSw); go_simp; (try with_reducible rfl))
              try simp only [Act.put, List.setIfInBounds_toArray, List.set_cons_zero, List.set_cons_succ, List.getElem_toArray, List.getElem_cons_zero, List.getElem_cons_succ]
              refine wpAnyH_take (i := 11) (v := ?_) rfl (by kernel_rfl) (by kernel_rfl) (by kernel_rfl) (fun _ _ _ h => h) (Or.inl ⟨by rfl, ?_⟩) (by assumption) ?_
              rotate_left
              · (intro w hSw; (try dsimp only at hSw); go_simp; (try with_reducible rfl))
              try simp only [Act.put, List.setIfInBounds_toArray, List.set_cons_zero, List.set_cons_succ, List.getElem_toArray, List.getElem_cons_zero, List.getElem_cons_succ]
              refine wpAnyH_ready (rs := [12]) (by kernel_rfl) (by simp) ?_
              refine (AllReadyH.cons rfl (fun K hK => ?_) AllReadyH.nil)
              go_simp
              refine hK.out _ _ (by exact (KP.of HOB6.out HX6.out).set HNEX.out _) (fun hHd5 => ?_)
              clear hK K hHd4
              try simp only [Act.put, List.setIfInBounds_toArray, List.set_cons_zero, List.set_cons_succ, List.getElem_toArray, List.getElem_cons_zero, List.getElem_cons_succ]
              refine wpAnyH_done (by kernel_rfl) ?_ _
              refine NoOut.normal ?_
              obtain ⟨q1, q2, q3, q4, q5⟩ := HRA.out
              have hfA : Fr [] Wb (w5.alloc (.cells #[.slice (some ⟨gd, 0, none⟩) d.length gc] 37)) := HCF.out.alloc _
              obtain ⟨w7, hw7⟩ : ∃ w7, w7 = w6.setCell ⟨F, 3, none⟩ (.slice va2 (X.length + 1) vc2) := ⟨_, rfl⟩
              rw [← hw7] at q2 q3 q4 ⊢
              have hX7 : w7.heap[X4]? = some (.cells #[.pointer (some ⟨F, 0, none⟩)] 62) := by rw [hw7]; exact obj_p HX6.out HNEX.out
              have HQ2 := Lib.hid q2
              have HQ3 := Lib.hid q3
              have HQ4 : Hid (Fr (F :: (Value.slice va X.length vc).ownBlock.toList) Wb w7) := Lib.hid ((hfA.mono (by simp)).trans q4)
              have HQ5 : Hid ((Value.slice va2 (X.length + 1) vc2).ownBlock = (Value.slice va X.length vc).ownBlock ∨ ∃ g, (Value.slice va2 (X.length + 1) vc2).ownBlock = some g ∧ Wb.heap.size ≤ g) := Lib.hid (q5.imp id (fun ⟨g, e1, e2⟩ => ⟨g, e1, Nat.le_trans hfA.size e2⟩))
              have x4 := cell_of_row _ _ 4 _ _ _ q2
              have xf := frozen_of_row _ _ 4 _ _ q2
              have xp := cell_of_row _ _ 0 _ _ _ hX7
              have xs := (Array.getElem?_eq_some_iff.1 q2).1
              simp at x4 xp
              have HLV := Lib.hid (liveN_le T)
              have hwrap : IntKind.i64.wrap ((liveN T : Int) + 1) = (liveN T : Int) + 1 := IntWalk.i64_in _ (by have := liveN_le T; have := HG9.out.ok.len; simp at this; omega)
              clear q1 q2 q3 q4 q5 hfA hX7 hw7 zc zf zs y35 y36 y3 y3c
              gi_wp2_with fail
              rw [← HR.out]
              have hlv : (liveN T : Int) + 1 = ((liveN (T ++ [some d]) : Nat) : Int) := by rw [liveN_snoc]; simp
              rw [hlv]
              have o8 : (w7.setCell ⟨F, 4, none⟩ (.int .i64 ((liveN (T ++ [some d]) : Nat) : Int))).heap[F]? = some (.cells #[.int .i64 kd, .int .i64 vr, .int .i64 S, .slice va2 (X.length + 1) vc2, .int .i64 ((liveN (T ++ [some d]) : Nat) : Int), .int .i64 0] 93) := by
                rw [heap_setCell_same w7 F 4 _ _ _ HQ2.out]
                rfl
              have hll := HQ3.out.fr ((Fr.refl [F] w7).setCell (p := ⟨F, 4, none⟩) (by simp) (.int .i64 ((liveN (T ++ [some d]) : Nat) : Int))) (fun i hi hm => HQ3.out.offF HQ2.out ((show i = F by simpa using hm) ▸ hi))
              have h98 := rf_snoc (y := ⟨some ⟨gd, 0, none⟩, gc, d⟩) HG9.out o8 hll (by have := HTL.out; omega) (fun d' h => by cases h; exact HDL.out)
              exact op_next HR.out HG9.out HHLB.out HG2.out HG3.out HG4.out HG5.out HG6.out HG7.out HFBW.out (HQ4.out.setCell (p := ⟨F, 4, none⟩) (fun _ => List.mem_cons_self) _) h98 HQ5.out HVC.out HTL.out HSTA.out HBF.out hFX HXC.out HDC.out rfl (fun W' h e1 e2 => .inl ⟨rfl, h, e1, e2⟩)
            · go_simp
              refine (Clone_some ⟨ab, Q + 1, none⟩ d.length d Wb.drew (by omega) HDB.out).mono ?_
              rintro e w5 ⟨cv, rfl, hcv⟩
              obtain ⟨gd, gc, rfl, hgd, hgl, hco, hcf⟩ := hcv
              have HCO := Lib.hid hco
              have HCF := Lib.hid (((Fr.refl [] Wb).drew).trans hcf)
              have HGD := Lib.hid (show Wb.heap.size ≤ gd from hgd)
              have HGL := Lib.hid hgl
              have y35 := y3c w5 HCF.out
              have y36 : ∀ o, (w5.alloc o).cell? ⟨F, 3, none⟩ = some (.slice va X.length vc) := fun o => y3c _ (HCF.out.alloc o)
              clear hco hcf hgd hgl
              go_simp
              refine hK.out _ _ (by exact HKP.out.fr HCF.out) (fun hHd6 => ?_)
              clear hK K hHd0
              try simp only [Act.put, List.setIfInBounds_toArray, List.set_cons_zero, List.set_cons_succ, List.getElem_toArray, List.getElem_cons_zero, List.getElem_cons_succ]
              refine wpAnyH_ready (rs := [4, 8]) (by kernel_rfl) (by simp) ?_
              refine (AllReadyH.cons rfl (fun K hK => ?_) (AllReadyH.cons rfl (fun K hK => ?_) AllReadyH.nil))
              · go_simp
                refine hK.out _ _ (by exact HKP.out.fr HCF.out) (fun hHd7 => ?_)
                clear hK K hHd6
                try simp only [Act.put, List.setIfInBounds_toArray, List.set_cons_zero, List.set_cons_succ, List.getElem_toArray, List.getElem_cons_zero, List.getElem_cons_succ]
                refine wpAnyH_ready (rs := [8]) (by kernel_rfl) (by simp) ?_
                refine (AllReadyH.cons rfl (fun K hK => ?_) AllReadyH.nil)
                go_simp
                refine hK.out _ _ (by exact KP.alloc (HKP.out.fr HCF.out) _) (fun hHd8 => ?_)
                clear hK K hHd7
                try simp only [Act.put, List.setIfInBounds_toArray, List.set_cons_zero, List.set_cons_succ, List.getElem_toArray, List.getElem_cons_zero, List.getElem_cons_succ]
                refine wpAnyH_ready (rs := [9]) (by kernel_rfl) (by simp) ?_
                refine (AllReadyH.cons rfl (fun K hK => ?_) AllReadyH.nil)
                have HROW5 := Lib.hid (own_fr HG9.out.recs.row ((HCF.out).alloc (.cells #[.slice (some ⟨gd, 0, none⟩) d.length gc] 37)) (by simp))
                have HB5 : Hid (w.heap.size ≤ (w5.alloc (.cells #[.slice (some ⟨gd, 0, none⟩) d.length gc] 37)).heap.size) := Lib.hid (by have := HCF.out.size; have := HFBW.out.size; rw [World.size_alloc]; omega)
                refine step_appS rfl (.tmp 53) (.tmp 57) 91 rfl w.heap.size 37 (.slice none 0 0) 1 24 Tryd.underlying91 infoLB rfl (by decide) (.slice va X.length vc) X.length (X.map LI.v) (by simp [Act.eval, Act.put]) HROW5.out (some ⟨w5.heap.size, 0, none⟩) 1 1 [.slice (some ⟨gd, 0, none⟩) d.length gc] (by simp [Act.eval, Act.put]) rfl (bx_news (heap_alloc_new w5 _)) (fun h => by cases h) (by simp [Value.oneCell']) (by unfold maxLen; omega) (by omega) HB5.out ?_
                intro v' w6 happ
                obtain ⟨va2, vc2, rfl⟩ := own_slR happ.own
                have HG9A := Lib.hid (HG9.out.keep (HCF.out.alloc (.cells #[.slice (some ⟨gd, 0, none⟩) d.length gc] 37)))
                have HY6 := Lib.hid (own_base (own_fr HCO.out ((Fr.refl [] w5).alloc (.cells #[.slice (some ⟨gd, 0, none⟩) d.length gc] 37)) (by simp)) (show w.heap.size ≤ Wb.drew.heap.size from HFBW.out.size))
                have hra := rf_app (y := ⟨some ⟨gd, 0, none⟩, gc, d⟩) HG9A.out HY6.out happ
                have HRA := Lib.hid hra
                have HOB6 := Lib.hid hra.1
                have zc := cell_of_row _ _ 3 _ _ _ hra.1
                have zf := frozen_of_row _ _ 3 _ _ hra.1
                simp at zc
                have zs := (Array.getElem?_eq_some_iff.1 hra.1).1
                have HXN : Hid (X4 ∉ (Value.slice va X.length vc).ownBlock.toList) := Lib.hid (fun hm => own_ty HG9.out.recs.row HG5.out (by decide) (by simpa using hm))
                have HX6 := Lib.hid ((app_frZ happ).obj ((HCF.out.alloc (.cells #[.slice (some ⟨gd, 0, none⟩) d.length gc] 37)).obj HG5.out (by simp)) HXN.out)
                have HAPB := Lib.hid (app_frZ happ)
                clear hra happ
                refine hK.out _ _ (by exact KP.of HOB6.out HX6.out) (fun hHd9 => ?_)
                clear hK K hHd8
                try simp only [Act.put, List.setIfInBounds_toArray, List.set_cons_zero, List.set_cons_succ, List.getElem_toArray, List.getElem_cons_zero, List.getElem_cons_succ]
                refine wpAnyH_take (i := 10) (v := ?_) rfl (by kernel_rfl) (by kernel_rfl) (by kernel_rfl) (fun _ _ _ h => h) (Or.inl ⟨by rfl, ?_⟩) (by assumption) ?_
                rotate_left
                · (intro w hSw; (try dsimp only at hSw); go_simp; (try with_reducible rfl))
                try simp only [Act.put, List.setIfInBounds_toArray, List.set_cons_zero, List.set_cons_succ, List.getElem_toArray, List.getElem_cons_zero, List.getElem_cons_succ]
                refine wpAnyH_take (i := 11) (v := ?_) rfl (by kernel_rfl) (by kernel_rfl) (by kernel_rfl) (fun _ _ _ h => h) (Or.inl ⟨by rfl, ?_⟩) (by assumption) ?_
                rotate_left
                · (intro w hSw; (try dsimp only at hSw); go_simp; (try with_reducible rfl))
                try simp only [Act.put, List.setIfInBounds_toArray, List.set_cons_zero, List.set_cons_succ, List.getElem_toArray, List.getElem_cons_zero, List.getElem_cons_succ]
                refine wpAnyH_ready (rs := [12]) (by kernel_rfl) (by simp) ?_
                refine (AllReadyH.cons rfl (fun K hK => ?_) AllReadyH.nil)
                go_simp
                refine hK.out _ _ (by exact (KP.of HOB6.out HX6.out).set HNEX.out _) (fun hHd10 => ?_)
                clear hK K hHd9
                try simp only [Act.put, List.setIfInBounds_toArray, List.set_cons_zero, List.set_cons_succ, List.getElem_toArray, List.getElem_cons_zero, List.getElem_cons_succ]
                refine wpAnyH_done (by kernel_rfl) ?_ _
                refine NoOut.normal ?_
                obtain ⟨q1, q2, q3, q4, q5⟩ := HRA.out
                have hfA : Fr [] Wb (w5.alloc (.cells #[.slice (some ⟨gd, 0, none⟩) d.length gc] 37)) := HCF.out.alloc _
                obtain ⟨w7, hw7⟩ : ∃ w7, w7 = w6.setCell ⟨F, 3, none⟩ (.slice va2 (X.length + 1) vc2) := ⟨_, rfl⟩
                rw [← hw7] at q2 q3 q4 ⊢
                have hX7 : w7.heap[X4]? = some (.cells #[.pointer (some ⟨F, 0, none⟩)] 62) := by rw [hw7]; exact obj_p HX6.out HNEX.out
                have HQ2 := Lib.hid q2
                have HQ3 := Lib.hid q3
                have HQ4 : Hid (Fr (F :: (Value.slice va X.length vc).ownBlock.toList) Wb w7) := Lib.hid ((hfA.mono (by simp)).trans q4)
                have HQ5 : Hid ((Value.slice va2 (X.length + 1) vc2).ownBlock = (Value.slice va X.length vc).ownBlock ∨ ∃ g, (Value.slice va2 (X.length + 1) vc2).ownBlock = some g ∧ Wb.heap.size ≤ g) := Lib.hid (q5.imp id (fun ⟨g, e1, e2⟩ => ⟨g, e1, Nat.le_trans hfA.size e2⟩))
                have x4 := cell_of_row _ _ 4 _ _ _ q2
                have xf := frozen_of_row _ _ 4 _ _ q2
                have xp := cell_of_row _ _ 0 _ _ _ hX7
                have xs := (Array.getElem?_eq_some_iff.1 q2).1
                simp at x4 xp
                have HLV := Lib.hid (liveN_le T)
                have hwrap : IntKind.i64.wrap ((liveN T : Int) + 1) = (liveN T : Int) + 1 := IntWalk.i64_in _ (by have := liveN_le T; have := HG9.out.ok.len; simp at this; omega)
                clear q1 q2 q3 q4 q5 hfA hX7 hw7 zc zf zs y35 y36 y3 y3c
                gi_wp2_with fail
                rw [← HR.out]
                have hlv : (liveN T : Int) + 1 = ((liveN (T ++ [some d]) : Nat) : Int) := by rw [liveN_snoc]; simp
                rw [hlv]
                have o8 : (w7.setCell ⟨F, 4, none⟩ (.int .i64 ((liveN (T ++ [some d]) : Nat) : Int))).heap[F]? = some (.cells #[.int .i64 kd, .int .i64 vr, .int .i64 S, .slice va2 (X.length + 1) vc2, .int .i64 ((liveN (T ++ [some d]) : Nat) : Int), .int .i64 0] 93) := by
                  rw [heap_setCell_same w7 F 4 _ _ _ HQ2.out]
                  rfl
                have hll := HQ3.out.fr ((Fr.refl [F] w7).setCell (p := ⟨F, 4, none⟩) (by simp) (.int .i64 ((liveN (T ++ [some d]) : Nat) : Int))) (fun i hi hm => HQ3.out.offF HQ2.out ((show i = F by simpa using hm) ▸ hi))
                have h98 := rf_snoc (y := ⟨some ⟨gd, 0, none⟩, gc, d⟩) HG9.out o8 hll (by have := HTL.out; omega) (fun d' h => by cases h; exact HDL.out)
                exact op_next HR.out HG9.out HHLB.out HG2.out HG3.out HG4.out HG5.out HG6.out HG7.out HFBW.out (HQ4.out.setCell (p := ⟨F, 4, none⟩) (fun _ => List.mem_cons_self) _) h98 HQ5.out HVC.out HTL.out HSTA.out HBF.out hFX HXC.out HDC.out rfl (fun W' h e1 e2 => .inl ⟨rfl, h, e1, e2⟩)
              · go_simp
                refine hK.out _ _ (by exact KP.alloc (HKP.out.fr HCF.out) _) (fun hHd11 => ?_)
                clear hK K hHd6
                try simp only [Act.put, List.setIfInBounds_toArray, List.set_cons_zero, List.set_cons_succ, List.getElem_toArray, List.getElem_cons_zero, List.getElem_cons_succ]
                refine wpAnyH_ready (rs := [4]) (by kernel_rfl) (by simp) ?_
                refine (AllReadyH.cons rfl (fun K hK => ?_) AllReadyH.nil)
                go_simp
                refine hK.out _ _ (by exact KP.alloc (HKP.out.fr HCF.out) _) (fun hHd12 => ?_)
                clear hK K hHd11
                try simp only [Act.put, List.setIfInBounds_toArray, List.set_cons_zero, List.set_cons_succ, List.getElem_toArray, List.getElem_cons_zero, List.getElem_cons_succ]
                refine wpAnyH_ready (rs := [9]) (by kernel_rfl) (by simp) ?_
                refine (AllReadyH.cons rfl (fun K hK => ?_) AllReadyH.nil)
                have HROW5 := Lib.hid (own_fr HG9.out.recs.row ((HCF.out).alloc (.cells #[.slice (some ⟨gd, 0, none⟩) d.length gc] 37)) (by simp))
                have HB5 : Hid (w.heap.size ≤ (w5.alloc (.cells #[.slice (some ⟨gd, 0, none⟩) d.length gc] 37)).heap.size) := Lib.hid (by have := HCF.out.size; have := HFBW.out.size; rw [World.size_alloc]; omega)
                refine step_appS rfl (.tmp 53) (.tmp 57) 91 rfl w.heap.size 37 (.slice none 0 0) 1 24 Tryd.underlying91 infoLB rfl (by decide) (.slice va X.length vc) X.length (X.map LI.v) (by simp [Act.eval, Act.put]) HROW5.out (some ⟨w5.heap.size, 0, none⟩) 1 1 [.slice (some ⟨gd, 0, none⟩) d.length gc] (by simp [Act.eval, Act.put]) rfl (bx_news (heap_alloc_new w5 _)) (fun h => by cases h) (by simp [Value.oneCell']) (by unfold maxLen; omega) (by omega) HB5.out ?_
                intro v' w6 happ
                obtain ⟨va2, vc2, rfl⟩ := own_slR happ.own
                have HG9A := Lib.hid (HG9.out.keep (HCF.out.alloc (.cells #[.slice (some ⟨gd, 0, none⟩) d.length gc] 37)))
                have HY6 := Lib.hid (own_base (own_fr HCO.out ((Fr.refl [] w5).alloc (.cells #[.slice (some ⟨gd, 0, none⟩) d.length gc] 37)) (by simp)) (show w.heap.size ≤ Wb.drew.heap.size from HFBW.out.size))
                have hra := rf_app (y := ⟨some ⟨gd, 0, none⟩, gc, d⟩) HG9A.out HY6.out happ
                have HRA := Lib.hid hra
                have HOB6 := Lib.hid hra.1
                have zc := cell_of_row _ _ 3 _ _ _ hra.1
                have zf := frozen_of_row _ _ 3 _ _ hra.1
                simp at zc
                have zs := (Array.getElem?_eq_some_iff.1 hra.1).1
                have HXN : Hid (X4 ∉ (Value.slice va X.length vc).ownBlock.toList) := Lib.hid (fun hm => own_ty HG9.out.recs.row HG5.out (by decide) (by simpa using hm))
                have HX6 := Lib.hid ((app_frZ happ).obj ((HCF.out.alloc (.cells #[.slice (some ⟨gd, 0, none⟩) d.length gc] 37)).obj HG5.out (by simp)) HXN.out)
                have HAPB := Lib.hid (app_frZ happ)
                clear hra happ
                refine hK.out _ _ (by exact KP.of HOB6.out HX6.out) (fun hHd13 => ?_)
                clear hK K hHd12
                try simp only [Act.put, List.setIfInBounds_toArray, List.set_cons_zero, List.set_cons_succ, List.getElem_toArray, List.getElem_cons_zero, List.getElem_cons_succ]
                refine wpAnyH_take (i := 10) (v := ?_) rfl (by kernel_rfl) (by kernel_rfl) (by kernel_rfl) (fun _ _ _ h => h) (Or.inl ⟨by rfl, ?_⟩) (by assumption) ?_
                rotate_left
                · (intro w hSw; (try dsimp only at hSw); go_simp; (try with_reducible rfl))
                try simp only [Act.put, List.setIfInBounds_toArray, List.set_cons_zero, List.set_cons_succ, List.getElem_toArray, List.getElem_cons_zero, List.getElem_cons_succ]
                refine wpAnyH_take (i := 11) (v := ?_) rfl (by kernel_rfl) (by kernel_rfl) (by kernel_rfl) (fun _ _ _ h => h) (Or.inl ⟨by rfl, ?_⟩) (by assumption) ?_
                rotate_left
                · (intro w hSw; (try dsimp only at hSw); go_simp; (try with_reducible rfl))
                try simp only [Act.put, List.setIfInBounds_toArray, List.set_cons_zero, List.set_cons_succ, List.getElem_toArray, List.getElem_cons_zero, List.getElem_cons_succ]
                refine wpAnyH_ready (rs := [12]) (by kernel_rfl) (by simp) ?_
                refine (AllReadyH.cons rfl (fun K hK => ?_) AllReadyH.nil)
                go_simp
                refine hK.out _ _ (by exact (KP.of HOB6.out HX6.out).set HNEX.out _) (fun hHd14 => ?_)
                clear hK K hHd13
                try simp only [Act.put, List.setIfInBounds_toArray, List.set_cons_zero, List.set_cons_succ, List.getElem_toArray, List.getElem_cons_zero, List.getElem_cons_succ]
                refine wpAnyH_done (by kernel_rfl) ?_ _
                refine NoOut.normal ?_
                obtain ⟨q1, q2, q3, q4, q5⟩ := HRA.out
                have hfA : Fr [] Wb (w5.alloc (.cells #[.slice (some ⟨gd, 0, none⟩) d.length gc] 37)) := HCF.out.alloc _
                obtain ⟨w7, hw7⟩ : ∃ w7, w7 = w6.setCell ⟨F, 3, none⟩ (.slice va2 (X.length + 1) vc2) := ⟨_, rfl⟩
                rw [← hw7] at q2 q3 q4 ⊢
                have hX7 : w7.heap[X4]? = some (.cells #[.pointer (some ⟨F, 0, none⟩)] 62) := by rw [hw7]; exact obj_p HX6.out HNEX.out
                have HQ2 := Lib.hid q2
                have HQ3 := Lib.hid q3
                have HQ4 : Hid (Fr (F :: (Value.slice va X.length vc).ownBlock.toList) Wb w7) := Lib.hid ((hfA.mono (by simp)).trans q4)
                have HQ5 : Hid ((Value.slice va2 (X.length + 1) vc2).ownBlock = (Value.slice va X.length vc).ownBlock ∨ ∃ g, (Value.slice va2 (X.length + 1) vc2).ownBlock = some g ∧ Wb.heap.size ≤ g) := Lib.hid (q5.imp id (fun ⟨g, e1, e2⟩ => ⟨g, e1, Nat.le_trans hfA.size e2⟩))
                have x4 := cell_of_row _ _ 4 _ _ _ q2
                have xf := frozen_of_row _ _ 4 _ _ q2
                have xp := cell_of_row _ _ 0 _ _ _ hX7
                have xs := (Array.getElem?_eq_some_iff.1 q2).1
                simp at x4 xp
                have HLV := Lib.hid (liveN_le T)
                have hwrap : IntKind.i64.wrap ((liveN T : Int) + 1) = (liveN T : Int) + 1 := IntWalk.i64_in _ (by have := liveN_le T; have := HG9.out.ok.len; simp at this; omega)
                clear q1 q2 q3 q4 q5 hfA hX7 hw7 zc zf zs y35 y36 y3 y3c
                gi_wp2_with fail
                rw [← HR.out]
                have hlv : (liveN T : Int) + 1 = ((liveN (T ++ [some d]) : Nat) : Int) := by rw [liveN_snoc]; simp
                rw [hlv]
                have o8 : (w7.setCell ⟨F, 4, none⟩ (.int .i64 ((liveN (T ++ [some d]) : Nat) : Int))).heap[F]? = some (.cells #[.int .i64 kd, .int .i64 vr, .int .i64 S, .slice va2 (X.length + 1) vc2, .int .i64 ((liveN (T ++ [some d]) : Nat) : Int), .int .i64 0] 93) := by
                  rw [heap_setCell_same w7 F 4 _ _ _ HQ2.out]
                  rfl
                have hll := HQ3.out.fr ((Fr.refl [F] w7).setCell (p := ⟨F, 4, none⟩) (by simp) (.int .i64 ((liveN (T ++ [some d]) : Nat) : Int))) (fun i hi hm => HQ3.out.offF HQ2.out ((show i = F by simpa using hm) ▸ hi))
                have h98 := rf_snoc (y := ⟨some ⟨gd, 0, none⟩, gc, d⟩) HG9.out o8 hll (by have := HTL.out; omega) (fun d' h => by cases h; exact HDL.out)
                exact op_next HR.out HG9.out HHLB.out HG2.out HG3.out HG4.out HG5.out HG6.out HG7.out HFBW.out (HQ4.out.setCell (p := ⟨F, 4, none⟩) (fun _ => List.mem_cons_self) _) h98 HQ5.out HVC.out HTL.out HSTA.out HBF.out hFX HXC.out HDC.out rfl (fun W' h e1 e2 => .inl ⟨rfl, h, e1, e2⟩)
          · have hI : I8 x = 0 := by unfold I8; omega
            rw [hI] at hxb
            have hCF : Calls Tryd.prog 54 #[.slice (some ⟨ab, Q, none⟩) S S, .func (.func 55) #[] #[]] Wb fun e w' => e = .returned (.bool (r.any (· != 0))) ∧ Wb = w' := by
              have h := ContainsFunc_F (some ⟨ab, Q, none⟩) S r Wb (by have := HRL.out; omega) HRB.out
              rwa [HRL.out] at h
            obtain ⟨an, han⟩ : ∃ an, an = r.any (· != 0) := ⟨_, rfl⟩
            rw [← han] at hCF
            have HCFN := Lib.hid hCF
            have HAN := Lib.hid han
            cases an with
            | true =>
              have HE : Hid (openB b = .error 94) := Lib.hid (by
                rw [HOP.out]
                refine fileOf_err ?_
                rw [HST.out]
                unfold oneR
                rw [← HX.out, if_neg hx1, if_neg hx0, if_pos HAN.out.symm]
                rfl)
              clear hx1 hx0 hI hCF han
              gi_wp2_with fail
              refine ⟨trivial, (CallsIn.inRound _ (callsIn_wide.2 HCFN.out)).mono ?_⟩
              rintro e w' ⟨rfl, rfl⟩
              gi_wp2_with fail
              rw [← HR.out]
              exact op_leave HHLB.out HG2.out HG3.out HG4.out HE.out HFBW.out (by have := HDC.out; have := HXC.out; have := HBF.out; omega) (by omega) (fun W' h => .inr ⟨rfl, h⟩)
            | false =>
              have HSTA : Hid (readR S M bod = preR (T ++ [none]) (readR S (M - (i + 1)) (bod.drop ((i + 1) * S)))) := Lib.hid (by
                rw [HST.out]
                unfold oneR
                rw [← HX.out, if_neg hx1, if_neg hx0, if_neg (by rw [← HAN.out]; simp)]
                exact preR_snoc _ _ _)
              have HKP := Lib.hid (KP.of HG9.out.obj HG5.out)
              have HNEX := Lib.hid (show X4 ≠ F by omega)
              have y37 : ∀ o, (Wb.alloc o).cell? ⟨F, 3, none⟩ = some (.slice va X.length vc) := fun o => ((Fr.refl [] Wb).alloc o).cell (cell_of_row _ _ 3 _ _ _ HG9.out.obj) (by simp)
              have y3 := cell_of_row _ _ 3 _ _ _ HG9.out.obj
              have y5 := cell_of_row _ _ 0 _ _ _ HG5.out
              simp at y3 y5
              clear hx1 hx0 hI hCF han
              gi_wp2_with fail
              refine ⟨trivial, (CallsIn.inRound _ (callsIn_wide.2 HCFN.out)).mono ?_⟩
              rintro e w' ⟨rfl, rfl⟩
              gi_wp2_with fail
              refine region_round (S := fun w' : World => w'.cell? ⟨X4, 0, none⟩ = some (.pointer (some ⟨F, 0, none⟩)) ∧ (w'.cell? ⟨F, 3, none⟩).isSome = true ∧ w'.frozen? ⟨F, 3, none⟩ = false ∧ F < w'.heap.size) (by kernel_rfl) (by kernel_rfl) (by exact HKP.out.drew) (fun hHd0 => ?_)
              refine wpAnyH_take (i := 0) (v := ?_) rfl (by kernel_rfl) (by kernel_rfl) (by kernel_rfl) (fun _ _ _ h => h) (Or.inl ⟨by rfl, ?_⟩) (by assumption) ?_
              rotate_left
              · (intro w hSw; (try dsimp only at hSw); go_simp; (try with_reducible rfl))
              try simp only [Act.put, List.setIfInBounds_toArray, List.set_cons_zero, List.set_cons_succ, List.getElem_toArray, List.getElem_cons_zero, List.getElem_cons_succ]
              refine wpAnyH_take (i := 1) (v := ?_) rfl (by kernel_rfl) (by kernel_rfl) (by kernel_rfl) (fun _ _ _ h => h) (Or.inl ⟨by rfl, ?_⟩) (by assumption) ?_
              rotate_left
              · (intro w hSw; (try dsimp only at hSw); go_simp; (try with_reducible rfl))
              try simp only [Act.put, List.setIfInBounds_toArray, List.set_cons_zero, List.set_cons_succ, List.getElem_toArray, List.getElem_cons_zero, List.getElem_cons_succ]
              refine wpAnyH_take (i := 2) (v := ?_) rfl (by kernel_rfl) (by kernel_rfl) (by kernel_rfl) (fun _ _ _ h => h) (Or.inl ⟨by rfl, ?_⟩) (by assumption) ?_
              rotate_left
              · (intro w hSw; (try dsimp only at hSw); go_simp; (try with_reducible rfl))
              try simp only [Act.put, List.setIfInBounds_toArray, List.set_cons_zero, List.set_cons_succ, List.getElem_toArray, List.getElem_cons_zero, List.getElem_cons_succ]
              refine wpAnyH_take (i := 3) (v := ?_) rfl (by kernel_rfl) (by kernel_rfl) (by kernel_rfl) (fun _ _ _ h => h) (Or.inl ⟨by rfl, ?_⟩) (by assumption) ?_
              rotate_left
              · (intro w hSw; (try dsimp only at hSw); go_simp; (try with_reducible rfl))
              try simp only [Act.put, List.setIfInBounds_toArray, List.set_cons_zero, List.set_cons_succ, List.getElem_toArray, List.getElem_cons_zero, List.getElem_cons_succ]
              refine wpAnyH_ready (rs := [4, 5]) (by kernel_rfl) (by simp) ?_
              refine (AllReadyH.cons rfl (fun K hK => ?_) (AllReadyH.cons rfl (fun K hK => ?_) AllReadyH.nil))
              · go_simp
                refine hK.out _ _ (by exact HKP.out.drew) (fun hHd1 => ?_)
                clear hK K hHd0
                try simp only [Act.put, List.setIfInBounds_toArray, List.set_cons_zero, List.set_cons_succ, List.getElem_toArray, List.getElem_cons_zero, List.getElem_cons_succ]
                refine wpAnyH_ready (rs := [5]) (by kernel_rfl) (by simp) ?_
                refine (AllReadyH.cons rfl (fun K hK => ?_) AllReadyH.nil)
                go_simp
                refine hK.out _ _ (by exact (HKP.out.alloc _).drew) (fun hHd2 => ?_)
                clear hK K hHd1
                try simp only [Act.put, List.setIfInBounds_toArray, List.set_cons_zero, List.set_cons_succ, List.getElem_toArray, List.getElem_cons_zero, List.getElem_cons_succ]
                refine wpAnyH_ready (rs := [6]) (by kernel_rfl) (by simp) ?_
                refine (AllReadyH.cons rfl (fun K hK => ?_) AllReadyH.nil)
                have HROW7 := Lib.hid (own_fr HG9.out.recs.row ((((Fr.refl [] Wb).alloc (.cells #[.slice none 0 0] 37))).drew) (by simp))
                have HB7 : Hid (w.heap.size ≤ ((Wb.alloc (.cells #[.slice none 0 0] 37)).drew).heap.size) := Lib.hid (by have h := HFBW.out.size; show w.heap.size ≤ (Wb.alloc (.cells #[.slice none 0 0] 37)).heap.size; rw [World.size_alloc]; omega)
                refine step_appS rfl (.tmp 34) (.tmp 35) 91 rfl w.heap.size 37 (.slice none 0 0) 1 24 Tryd.underlying91 infoLB rfl (by decide) (.slice va X.length vc) X.length (X.map LI.v) (by simp [Act.eval, Act.put]) HROW7.out (some ⟨Wb.heap.size, 0, none⟩) 1 1 [.slice none 0 0] (by simp [Act.eval, Act.put]) rfl (bx_news (heap_alloc_new Wb _)) (fun h => by cases h) (by simp [Value.oneCell']) (by unfold maxLen; omega) (by omega) HB7.out ?_
                intro v' w6 happ
                obtain ⟨va2, vc2, rfl⟩ := own_slR happ.own
                have HF7 := Lib.hid ((((Fr.refl [] Wb).alloc (.cells #[.slice none 0 0] 37))).drew)
                have hra := rf_app (y := LI.no) (HG9.out.keep HF7.out) (World.ownsRow_nil _ _ _ _) happ
                have HRA := Lib.hid hra
                have HOB6 := Lib.hid hra.1
                have zc := cell_of_row _ _ 3 _ _ _ hra.1
                have zf := frozen_of_row _ _ 3 _ _ hra.1
                simp at zc
                have zs := (Array.getElem?_eq_some_iff.1 hra.1).1
                have HXN : Hid (X4 ∉ (Value.slice va X.length vc).ownBlock.toList) := Lib.hid (fun hm => own_ty HG9.out.recs.row HG5.out (by decide) (by simpa using hm))
                have HX6 := Lib.hid ((app_frZ happ).obj (HF7.out.obj HG5.out (by simp)) HXN.out)
                clear hra happ
                refine hK.out _ _ (by exact KP.of HOB6.out HX6.out) (fun hHd3 => ?_)
                clear hK K hHd2
                try simp only [Act.put, List.setIfInBounds_toArray, List.set_cons_zero, List.set_cons_succ, List.getElem_toArray, List.getElem_cons_zero, List.getElem_cons_succ]
                refine wpAnyH_take (i := 7) (v := ?_) rfl (by kernel_rfl) (by kernel_rfl) (by kernel_rfl) (fun _ _ _ h => h) (Or.inl ⟨by rfl, ?_⟩) (by assumption) ?_
                rotate_left
                · (intro w hSw; (try dsimp only at hSw); go_simp; (try with_reducible rfl))
                try simp only [Act.put, List.setIfInBounds_toArray, List.set_cons_zero, List.set_cons_succ, List.getElem_toArray, List.getElem_cons_zero, List.getElem_cons_succ]
                refine wpAnyH_take (i := 8) (v := ?_) rfl (by kernel_rfl) (by kernel_rfl) (by kernel_rfl) (fun _ _ _ h => h) (Or.inl ⟨by rfl, ?_⟩) (by assumption) ?_
                rotate_left
                · (intro w hSw; (try dsimp only at hSw); go_simp; (try with_reducible rfl))
                try simp only [Act.put, List.setIfInBounds_toArray, List.set_cons_zero, List.set_cons_succ, List.getElem_toArray, List.getElem_cons_zero, List.getElem_cons_succ]
                refine wpAnyH_ready (rs := [9]) (by kernel_rfl) (by simp) ?_
                refine (AllReadyH.cons rfl (fun K hK => ?_) AllReadyH.nil)
                go_simp
                refine hK.out _ _ (by exact (KP.of HOB6.out HX6.out).set HNEX.out _) (fun hHd4 => ?_)
                clear hK K hHd3
                try simp only [Act.put, List.setIfInBounds_toArray, List.set_cons_zero, List.set_cons_succ, List.getElem_toArray, List.getElem_cons_zero, List.getElem_cons_succ]
                refine wpAnyH_done (by kernel_rfl) ?_ _
                refine NoOut.normal ?_
                obtain ⟨q1, q2, q3, q4, q5⟩ := HRA.out
                obtain ⟨w7, hw7⟩ : ∃ w7, w7 = w6.setCell ⟨F, 3, none⟩ (.slice va2 (X.length + 1) vc2) := ⟨_, rfl⟩
                rw [← hw7] at q2 q3 q4 ⊢
                have HQ2 := Lib.hid q2
                have HQ3 := Lib.hid q3
                have HQ4 : Hid (Fr (F :: (Value.slice va X.length vc).ownBlock.toList) Wb w7) := Lib.hid ((HF7.out.mono (by simp)).trans q4)
                have HQ5 : Hid ((Value.slice va2 (X.length + 1) vc2).ownBlock = (Value.slice va X.length vc).ownBlock ∨ ∃ g, (Value.slice va2 (X.length + 1) vc2).ownBlock = some g ∧ Wb.heap.size ≤ g) := Lib.hid (q5.imp id (fun ⟨g, e1, e2⟩ => ⟨g, e1, Nat.le_trans HF7.out.size e2⟩))
                clear q1 q2 q3 q4 q5 hw7 zc zf zs y3 y37
                gi_wp2_with fail
                rw [← HR.out]
                have o8 : w7.heap[F]? = some (.cells #[.int .i64 kd, .int .i64 vr, .int .i64 S, .slice va2 (X.length + 1) vc2, .int .i64 ((liveN (T ++ [none]) : Nat) : Int), .int .i64 0] 93) := by
                  rw [liveN_snoc]
                  exact HQ2.out
                have h98 := rf_snoc (y := LI.no) HG9.out o8 HQ3.out (by have := HTL.out; omega) (fun d' h => by cases h)
                exact op_next HR.out HG9.out HHLB.out HG2.out HG3.out HG4.out HG5.out HG6.out HG7.out HFBW.out HQ4.out h98 HQ5.out HVC.out HTL.out HSTA.out HBF.out hFX HXC.out HDC.out rfl (fun W' h e1 e2 => .inl ⟨rfl, h, e1, e2⟩)
              · go_simp
                refine hK.out _ _ (by exact (HKP.out.alloc _).drew) (fun hHd5 => ?_)
                clear hK K hHd0
                try simp only [Act.put, List.setIfInBounds_toArray, List.set_cons_zero, List.set_cons_succ, List.getElem_toArray, List.getElem_cons_zero, List.getElem_cons_succ]
                refine wpAnyH_ready (rs := [4]) (by kernel_rfl) (by simp) ?_
                refine (AllReadyH.cons rfl (fun K hK => ?_) AllReadyH.nil)
                go_simp
                refine hK.out _ _ (by exact (HKP.out.alloc _).drew) (fun hHd6 => ?_)
                clear hK K hHd5
                try simp only [Act.put, List.setIfInBounds_toArray, List.set_cons_zero, List.set_cons_succ, List.getElem_toArray, List.getElem_cons_zero, List.getElem_cons_succ]
                refine wpAnyH_ready (rs := [6]) (by kernel_rfl) (by simp) ?_
                refine (AllReadyH.cons rfl (fun K hK => ?_) AllReadyH.nil)
                have HROW7 := Lib.hid (own_fr HG9.out.recs.row ((((Fr.refl [] Wb).alloc (.cells #[.slice none 0 0] 37))).drew) (by simp))
                have HB7 : Hid (w.heap.size ≤ ((Wb.alloc (.cells #[.slice none 0 0] 37)).drew).heap.size) := Lib.hid (by have h := HFBW.out.size; show w.heap.size ≤ (Wb.alloc (.cells #[.slice none 0 0] 37)).heap.size; rw [World.size_alloc]; omega)
                refine step_appS rfl (.tmp 34) (.tmp 35) 91 rfl w.heap.size 37 (.slice none 0 0) 1 24 Tryd.underlying91 infoLB rfl (by decide) (.slice va X.length vc) X.length (X.map LI.v) (by simp [Act.eval, Act.put]) HROW7.out (some ⟨Wb.heap.size, 0, none⟩) 1 1 [.slice none 0 0] (by simp [Act.eval, Act.put]) rfl (bx_news (heap_alloc_new Wb _)) (fun h => by cases h) (by simp [Value.oneCell']) (by unfold maxLen; omega) (by omega) HB7.out ?_
                intro v' w6 happ
                obtain ⟨va2, vc2, rfl⟩ := own_slR happ.own
                have HF7 := Lib.hid ((((Fr.refl [] Wb).alloc (.cells #[.slice none 0 0] 37))).drew)
                have hra := rf_app (y := LI.no) (HG9.out.keep HF7.out) (World.ownsRow_nil _ _ _ _) happ
                have HRA := Lib.hid hra
                have HOB6 := Lib.hid hra.1
                have zc := cell_of_row _ _ 3 _ _ _ hra.1
                have zf := frozen_of_row _ _ 3 _ _ hra.1
                simp at zc
                have zs := (Array.getElem?_eq_some_iff.1 hra.1).1
                have HXN : Hid (X4 ∉ (Value.slice va X.length vc).ownBlock.toList) := Lib.hid (fun hm => own_ty HG9.out.recs.row HG5.out (by decide) (by simpa using hm))
                have HX6 := Lib.hid ((app_frZ happ).obj (HF7.out.obj HG5.out (by simp)) HXN.out)
                clear hra happ
                refine hK.out _ _ (by exact KP.of HOB6.out HX6.out) (fun hHd7 => ?_)
                clear hK K hHd6
                try simp only [Act.put, List.setIfInBounds_toArray, List.set_cons_zero, List.set_cons_succ, List.getElem_toArray, List.getElem_cons_zero, List.getElem_cons_succ]
                refine wpAnyH_take (i := 7) (v := ?_) rfl (by kernel_rfl) (by kernel_rfl) (by kernel_rfl) (fun _ _ _ h => h) (Or.inl ⟨by rfl, ?_⟩) (by assumption) ?_
                rotate_left
                · (intro w hSw; (try dsimp only at hSw); go_simp; (try with_reducible rfl))
                try simp only [Act.put, List.setIfInBounds_toArray, List.set_cons_zero, List.set_cons_succ, List.getElem_toArray, List.getElem_cons_zero, List.getElem_cons_succ]
                refine wpAnyH_take (i := 8) (v := ?_) rfl (by kernel_rfl) (by kernel_rfl) (by kernel_rfl) (fun _ _ _ h => h) (Or.inl ⟨by rfl, ?_⟩) (by assumption) ?_
                rotate_left
                · (intro w hSw; (try dsimp only at hSw); go_simp; (try with_reducible rfl))
                try simp only [Act.put, List.setIfInBounds_toArray, List.set_cons_zero, List.set_cons_succ, List.getElem_toArray, List.getElem_cons_zero, List.getElem_cons_succ]
                refine wpAnyH_ready (rs := [9]) (by kernel_rfl) (by simp) ?_
                refine (AllReadyH.cons rfl (fun K hK => ?_) AllReadyH.nil)
                go_simp
                refine hK.out _ _ (by exact (KP.of HOB6.out HX6.out).set HNEX.out _) (fun hHd8 => ?_)
                clear hK K hHd7
                try simp only [Act.put, List.setIfInBounds_toArray, List.set_cons_zero, List.set_cons_succ, List.getElem_toArray, List.getElem_cons_zero, List.getElem_cons_succ]
                refine wpAnyH_done (by kernel_rfl) ?_ _
                refine NoOut.normal ?_
                obtain ⟨q1, q2, q3, q4, q5⟩ := HRA.out
                obtain ⟨w7, hw7⟩ : ∃ w7, w7 = w6.setCell ⟨F, 3, none⟩ (.slice va2 (X.length + 1) vc2) := ⟨_, rfl⟩
                rw [← hw7] at q2 q3 q4 ⊢
                have HQ2 := Lib.hid q2
                have HQ3 := Lib.hid q3
                have HQ4 : Hid (Fr (F :: (Value.slice va X.length vc).ownBlock.toList) Wb w7) := Lib.hid ((HF7.out.mono (by simp)).trans q4)
                have HQ5 : Hid ((Value.slice va2 (X.length + 1) vc2).ownBlock = (Value.slice va X.length vc).ownBlock ∨ ∃ g, (Value.slice va2 (X.length + 1) vc2).ownBlock = some g ∧ Wb.heap.size ≤ g) := Lib.hid (q5.imp id (fun ⟨g, e1, e2⟩ => ⟨g, e1, Nat.le_trans HF7.out.size e2⟩))
                clear q1 q2 q3 q4 q5 hw7 zc zf zs y3 y37
                gi_wp2_with fail
                rw [← HR.out]
                have o8 : w7.heap[F]? = some (.cells #[.int .i64 kd, .int .i64 vr, .int .i64 S, .slice va2 (X.length + 1) vc2, .int .i64 ((liveN (T ++ [none]) : Nat) : Int), .int .i64 0] 93) := by
                  rw [liveN_snoc]
                  exact HQ2.out
                have h98 := rf_snoc (y := LI.no) HG9.out o8 HQ3.out (by have := HTL.out; omega) (fun d' h => by cases h)
                exact op_next HR.out HG9.out HHLB.out HG2.out HG3.out HG4.out HG5.out HG6.out HG7.out HFBW.out HQ4.out h98 HQ5.out HVC.out HTL.out HSTA.out HBF.out hFX HXC.out HDC.out rfl (fun W' h e1 e2 => .inl ⟨rfl, h, e1, e2⟩)
      · rintro e W2 ⟨⟨vv, rfl⟩, (⟨A, hJ, hfA⟩ | hX)⟩
        · refine ⟨⟨_, rfl⟩, .inl ?_⟩
          obtain ⟨h1, h2, h3, h4, h5, h6, h7, h8, v, X, T, h9, hvC, hTl, hrd⟩ := hJ
          have hDA : D + 1 < A.heap.size := (Array.getElem?_eq_some_iff.1 h1).1
          have hl2 := hfA.obj h1 (by simp)
          refine ⟨hR ▸ hl2, ?_⟩
          generalize hWb : World.putObj W2 (D + 1) _ = Wb
          have hfb : Fr [D + 1] A Wb := by rw [← hWb]; exact (hfA.mono (by simp)).putObj (by simp) _
          clear hWb
          have hz2 := HBF.out
          have hz3 := HXC.out
          have g2 := hfb.obj h2 (by simp)
          have g3 := hfb.obj h3 (by simp; omega)
          have g4 := hfb.obj h4 (by simp; omega)
          have g5 := hfb.obj h5 (by simp; omega)
          have g9 := h9.fr hfb (fun i hi hm => rf_apart h9 hR h1 i hi (by simpa using hm))
          have hOP : openB b = .ok (kd, vr, S, T) := by
            rw [HOP.out, hrd, Nat.sub_self]
            show fileOf kd vr S (.ok (T ++ [])) = _
            rw [List.append_nil]
            rfl
          have q0 := cell_of_row Wb w.heap.size 0 _ _ _ g3
          have q1 := frozen_of_row Wb w.heap.size 0 _ _ g3
          have q4 := obj_p (k := 0) (v := .pointer (some ⟨F, 0, none⟩)) g4 (show w.heap.size + 1 ≠ w.heap.size by omega)
          have q5 := cell_of_row _ (w.heap.size + 1) 0 _ _ _ q4
          have q6 := frozen_of_row _ (w.heap.size + 1) 0 _ _ q4
          have q7 := cell_of_row Wb X4 0 _ _ _ g5
          simp at q0 q5 q7
          have hll : w.heap.size < Wb.heap.size := (Array.getElem?_eq_some_iff.1 g3).1
          have hll2 : w.heap.size + 1 < Wb.heap.size := (Array.getElem?_eq_some_iff.1 g4).1
          have hfw : Fr [] w Wb := h8.next hfb (by intro i hi hlt; simp at hi; omega)
          have HG2 := Lib.hid g2
          have HG3 := Lib.hid g3
          have HG4 := Lib.hid g4
          have HG9 := Lib.hid g9
          have Q4 := Lib.hid q4
          have HFBW := Lib.hid hfw
          have HOPK := Lib.hid hOP
          have HDC2 := Lib.hid hDC
          clear HFZ HZ1 HZ2 HSZ HFO HF1 HFL HZ11 HZ21 HEE HX4 HFO2 HF12 HF2 hF2 hX2 hk0 HT1 HT2 HT4 HT5 HT6 HT7 HK1 HK2 HK3 HK4 HNN HNM HFW HX4L HB HC HN
          clear hlr hlr2 hD hf1 hf3 h1 h2 h3 h4 h5 h6 h7 h8 h9 hvC hTl hrd g2 g3 g4 g5 g9 hfb hl2 hfA hfw hOP q4 hR hDD hDC hbod hbl hkd hvr hsz1 hNd
          go_wp2_with fail
          have hf7 : Fr [w.heap.size, w.heap.size + 1] Wb ((Wb.setCell ⟨w.heap.size, 0, none⟩ (.pointer (some ⟨F, 0, none⟩))).setCell ⟨w.heap.size + 1, 0, none⟩ (.int .i64 0)) := ((Fr.refl [w.heap.size, w.heap.size + 1] Wb).setCell (by simp) _).setCell (by simp) _
          have hd7 := hf7.obj HG2.out (by have := HDC2.out; simp; omega)
          have ho7 : ((Wb.setCell ⟨w.heap.size, 0, none⟩ (.pointer (some ⟨F, 0, none⟩))).setCell ⟨w.heap.size + 1, 0, none⟩ (.int .i64 0)).heap[w.heap.size + 1]? = some (.cells #[.int .i64 0] 25) := by rw [heap_setCell_same _ _ 0 _ _ _ Q4.out]; rfl
          have ho8 : ((Wb.setCell ⟨w.heap.size, 0, none⟩ (.pointer (some ⟨F, 0, none⟩))).setCell ⟨w.heap.size + 1, 0, none⟩ (.int .i64 0)).heap[w.heap.size]? = some (.cells #[.pointer (some ⟨F, 0, none⟩)] 62) := ((Fr.refl [w.heap.size + 1] _).setCell (by simp) _).obj (heap_setCell_same _ _ 0 _ _ _ HG3.out) (by simp)
          have hx7 := HG9.out.fr hf7 (fun i hi hm => by
            have hm2 : i = w.heap.size ∨ i = w.heap.size + 1 := by simpa using hm
            rcases List.mem_cons.1 hi with hi | hi
            · omega
            · rcases hm2 with rfl | rfl <;> rcases llB_cases hi with hi | ⟨x, hx, hi⟩
              · exact own_ty HG9.out.recs.row HG3.out (by decide) hi
              · exact own_ty (HG9.out.recs.dat x hx) HG3.out (by decide) hi
              · exact own_ty HG9.out.recs.row HG4.out (by decide) hi
              · exact own_ty (HG9.out.recs.dat x hx) HG4.out (by decide) hi)
          refine mark_ret hd7 (results_c2 rfl _ _ ⟨w.heap.size, 0, none⟩ ⟨w.heap.size + 1, 0, none⟩ _ _ rfl rfl (load_pF (by rw [World.putObj_heap_other (by have := HDC2.out; omega)]; exact ho8)) (load_eF (by rw [World.putObj_heap_other (by have := HDC2.out; omega)]; exact ho7))) ?_
          refine .inr ⟨kd, vr, S, T, F, rfB F v X, HOPK.out, rfl, ⟨v, X, ?_, rfl⟩, ?_⟩
          · refine hx7.fr ((Fr.refl [D] _).putObj (by simp) _) (fun i hi hm => ?_)
            obtain rfl : i = D := by simpa using hm
            rcases List.mem_cons.1 hi with hi | hi
            · have := HDC2.out; omega
            · rcases llB_cases hi with hi | ⟨x, hx, hi⟩
              · exact own_df hx7.recs.row hd7 hi
              · exact own_df (hx7.recs.dat x hx) hd7 hi
          · exact (((HFBW.out).setCell (by simp) _).setCell (by simp) _).putObj (by have := HDC2.out; omega) _
        · obtain ⟨E, h1, h2, h3, h4, hE, h5⟩ := hX
          refine ⟨⟨_, rfl⟩, .inr ?_⟩
          refine ⟨.ret, hR ▸ h1, ?_⟩
          have hDA : D + 1 < W2.heap.size := (Array.getElem?_eq_some_iff.1 h1).1
          generalize hWb : World.putObj W2 (D + 1) _ = Wb
          have hfb : Fr [D + 1] W2 Wb := by rw [← hWb]; exact (Fr.refl _ _).putObj (by simp) _
          clear hWb
          have hz2 := HBF.out
          have hz3 := HXC.out
          have H2B := Lib.hid (hfb.obj h2 (by simp))
          have H3B := Lib.hid (hfb.obj h3 (by simp; omega))
          have H4B := Lib.hid (hfb.obj h4 (by simp; omega))
          have HFB := Lib.hid hfb
          have HE := Lib.hid hE
          have H5 := Lib.hid h5
          have hsw := h5.size
          have HDC2 := Lib.hid hDC
          clear HFZ HZ1 HZ2 HSZ HFO HF1 HFL HZ11 HZ21 HEE HX4 HFO2 HF12 HF2 hF2 hX2 hk0 HT1 HT2 HT4 HT5 HT6 HT7 HK1 HK2 HK3 HK4 HNN HNM HFW HX4L HB HC HN
          clear hlr hlr2 hD hf1 hf3 h1 h2 h3 h4 h5 hfb hE hR hDD hDC hbod hbl hkd hvr hsz1 hNd
          gi_wp2_with fail
          refine mark_ret H2B.out (results_c2 rfl _ _ ⟨w.heap.size, 0, none⟩ ⟨w.heap.size + 1, 0, none⟩ _ _ rfl rfl (load_pF (by rw [World.putObj_heap_other (by have := HDC2.out; omega)]; exact H3B.out)) (load_eF (by rw [World.putObj_heap_other (by have := HDC2.out; omega)]; exact H4B.out))) ?_
          exact .inl ⟨E, HE.out, rfl, (H5.out.next HFB.out (by intro i hi hlt; have := HDC2.out; simp at hi; omega)).putObj (by have := HDC2.out; omega) _⟩
    · have hEb : (E != 0) = true := by rw [bne_iff_ne]; exact hE0
      have HE : Hid (openB b = .error E) := Lib.hid (by rw [hE]; exact hdE_open h16 (by rw [← hE]; exact hE0))
      clear hE hE0
      go_wp2_with fail
      exact open_err HE.out HZ11.out HZ21.out HF1.out rfl rfl
end Go.Proofs.YtlckhfjkdahfpaaDoor
