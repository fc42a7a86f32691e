/- Record files: RecfileWalks. -/
import Derived.Test.YtibhbfmljibeaaaDoorWkA
import Derived.Test.YtibhbfmljibeaaaDoorRfW
import Derived.Test.YtibhbfmljibeaaaDoorRfY
import Derived.Lib.SliceRun
namespace Go.Proofs.YtibhbfmljibeaaaDoor
open Go.RowKit Go.Shelf
attribute [local go_sem] Oper.semAt_some
theorem results_c1 {P : Program} {fn : Func} {p : Tmp} {ty : TypeId} (h : fn.results = #[.cell p ty]) (tmps : Array Value) (w : World) (a : Addr) (x : Value)
    (hp : tmps.getD p undef = .pointer (some a)) (h1 : (loadVar ty a).run P w = .ok x w) : (results fn tmps).run P w = .ok x w := by
  have key : (results fn tmps).run P w = ((asAddr (tmps.getD p undef)).run P w).andThen fun a w₁ => (loadVar ty a).run P w₁ := by
    simp only [results, h]
    simp [Sem.run_bind, Result.andThen]
  rw [key, hp]
  simp [asAddr, h1]
theorem eql_nilF (w : World) (f : Fn) (xs ys : Array Value) : (binOp .eql 60 (.func f xs ys) .nilFunc).run Tryd.prog w = .ok (.bool false) w := by
  have h : ∀ d : Nat, (Op.equalIn (d + 1) 60 (.func f xs ys) .nilFunc).run Tryd.prog w = .ok false w := fun d => by simp [Op.equalIn, run_underlying Tryd.underlying60]
  simp only [binOp]
  simp [Op.equal, Op.maxDepth, h 9999]
theorem load_b {w : World} {b : Nat} {v : Value} {T : Nat} (h : w.heap[b]? = some (.cells #[v] T)) : (loadVar 4 ⟨b, 0, none⟩).run Tryd.prog w = .ok v w := by
  have hc := cell_of_row w b 0 _ _ _ h
  simp at hc
  simp [loadVar, go_sem, hc]
/-- an object that is no part of a file -/
def offO : Obj → Prop
  | .cells _ T _ => T ≠ 74 ∧ T ≠ 23 ∧ T ≠ 5 ∧ T ≠ 67 ∧ T ≠ 91
  | _ => True
theorem own_off {w : World} {B e size n k : Nat} {v : Value} {xs : List Value} {o : Obj} (h : w.ownsRow B e size v n xs) (hk : w.heap[k]? = some o) (ho : ∀ cs fz, o ≠ .cells cs e fz) : v.ownBlock ≠ some k := by
  rcases h.2 with ⟨rfl, _⟩ | ⟨g, cap, cur, rfl, _, hh, _⟩
  · simp [Value.ownBlock]
  · simp only [Value.ownBlock]
    intro e1
    cases e1
    rw [hk] at hh
    exact ho _ _ (Option.some.inj hh)
theorem offO_ne {o : Obj} (h : offO o) {e : Nat} (he : e = 74 ∨ e = 23 ∨ e = 5 ∨ e = 67 ∨ e = 91) : ∀ cs fz, o ≠ .cells cs e fz := by
  intro cs fz e1
  subst e1
  obtain ⟨h1, h2, h3, h4, h5⟩ := h
  rcases he with rfl | rfl | rfl | rfl | rfl
  · exact h1 rfl
  · exact h2 rfl
  · exact h3 rfl
  · exact h4 rfl
  · exact h5 rfl
theorem RF.offO {B p k : Nat} {bs : List Nat} {w : World} {s : RFS} {o : Obj} (h : RF B bs w p s) (hk : w.heap[k]? = some o) (ho : offO o) : k ∉ bs := by
  obtain ⟨v, X, h, rfl⟩ := h
  intro hm
  rcases List.mem_cons.1 hm with rfl | hm
  · rw [h.obj] at hk
    exact offO_ne ho (.inl rfl) _ _ (Option.some.inj hk).symm
  · rcases llB_cases hm with hm | ⟨x, hx, hm⟩
    · exact own_off h.recs.row hk (offO_ne ho (.inr (.inl rfl))) hm
    · exact own_off (h.recs.dat x hx) hk (offO_ne ho (.inr (.inr (.inl rfl)))) hm
theorem MF.offO {B p k : Nat} {bs : List Nat} {w : World} {s : RFS} {o : Obj} (h : MF B bs w p s) (hk : w.heap[k]? = some o) (ho : offO o) : k ∉ bs := by
  obtain ⟨v, X, h, rfl⟩ := h
  intro hm
  rcases List.mem_cons.1 hm with rfl | hm
  · rw [h.obj] at hk
    exact offO_ne ho (.inr (.inr (.inr (.inl rfl)))) _ _ (Option.some.inj hk).symm
  · rcases mlB_cases hm with hm | ⟨x, hx, hm⟩
    · exact own_off h.recs.row hk (offO_ne ho (.inr (.inr (.inr (.inr rfl))))) hm
    · exact own_off (h.recs.dat x hx) hk (offO_ne ho (.inr (.inr (.inl rfl)))) hm
/-- where the walk's own blocks are -/
structure WkP where
  l : Nat
  D : Nat
  RZ : Nat
  AG : Nat
  X7 : Nat
  X9 : Nat
  XK : Nat
  XL : Nat
  Bn : Nat
  p : Nat
  q : Nat
  B : Nat
  C : Nat
  wa : Int
  wf : Int
  wp : Int
  ws : Int
def WkP.fix (P : WkP) : List Nat := [P.l, P.D, P.RZ, P.AG, P.X7, P.X9, P.XK, P.XL, P.Bn]
structure WkS (P : WkP) (w : World) (o : Obj) (k : Nat) (la : Int) (s : RFS) (bs cs : List Nat) (A : World) : Prop where
  lp : A.heap[P.l]? = some o
  df : A.heap[P.D]? = some (.deferred (some []))
  rz : A.heap[P.RZ]? = some (.cells #[.bool false] 4)
  ag : A.heap[P.AG]? = some (.cells #[.int .i64 P.wa, .int .i64 P.wf, .int .i64 P.wp, .int .i64 P.ws] 58)
  x7 : A.heap[P.X7]? = some (.cells #[.pointer (some ⟨P.p, 0, none⟩)] 24)
  x9 : A.heap[P.X9]? = some (.cells #[.pointer (some ⟨P.q, 0, none⟩)] 48)
  xk : A.heap[P.XK]? = some (.cells #[.int .i64 k] 3)
  xl : A.heap[P.XL]? = some (.cells #[.int .i64 la] 3)
  bn : A.heap[P.Bn]? = some (.cells #[.pointer (some ⟨P.p, 0, none⟩)] 24)
  pr : Pair P.B P.C A P.p P.q bs cs s
  fr : Fr [] w A
  nd : P.fix.Nodup
  of : offO o
  new : ∀ i ∈ P.fix, w.heap.size ≤ i
  bw : w.heap.size ≤ P.B ∧ w.heap.size ≤ P.C
theorem WkS.lt {P : WkP} {w : World} {o : Obj} {k : Nat} {la : Int} {s : RFS} {bs cs : List Nat} {A : World} (h : WkS P w o k la s bs cs A) : ∀ i ∈ P.fix, i < A.heap.size := by
  intro i hi
  have key : ∀ {i : Nat} {o : Obj}, A.heap[i]? = some o → i < A.heap.size := fun h => (Array.getElem?_eq_some_iff.1 h).1
  simp only [WkP.fix, List.mem_cons, List.not_mem_nil, or_false] at hi
  rcases hi with rfl | rfl | rfl | rfl | rfl | rfl | rfl | rfl | rfl
  · exact key h.lp
  · exact key h.df
  · exact key h.rz
  · exact key h.ag
  · exact key h.x7
  · exact key h.x9
  · exact key h.xk
  · exact key h.xl
  · exact key h.bn
theorem WkS.off {P : WkP} {w : World} {o : Obj} {k : Nat} {la : Int} {s : RFS} {bs cs : List Nat} {A : World} (h : WkS P w o k la s bs cs A) : ∀ i ∈ P.fix, i ∉ bs ++ cs := by
  intro i hi hm
  have key : ∀ {i : Nat} {o : Obj}, A.heap[i]? = some o → offO o → i ∈ bs ++ cs → False := fun hk ho hm => by
    rcases List.mem_append.1 hm with hm | hm
    · exact h.pr.f.offO hk ho hm
    · exact h.pr.m.offO hk ho hm
  have D : ∀ (cs : Array Value) (T : Nat), (T = 4 ∨ T = 58 ∨ T = 24 ∨ T = 48 ∨ T = 3) → offO (.cells cs T) := by
    intro cs T hT
    rcases hT with rfl | rfl | rfl | rfl | rfl <;> exact ⟨by decide, by decide, by decide, by decide, by decide⟩
  simp only [WkP.fix, List.mem_cons, List.not_mem_nil, or_false] at hi
  rcases hi with rfl | rfl | rfl | rfl | rfl | rfl | rfl | rfl | rfl
  · exact key h.lp h.of hm
  · exact key h.df trivial hm
  · exact key h.rz (D _ _ (by simp)) hm
  · exact key h.ag (D _ _ (by simp)) hm
  · exact key h.x7 (D _ _ (by simp)) hm
  · exact key h.x9 (D _ _ (by simp)) hm
  · exact key h.xk (D _ _ (by simp)) hm
  · exact key h.xl (D _ _ (by simp)) hm
  · exact key h.bn (D _ _ (by simp)) hm
theorem WkS.step {S : List Nat} {P : WkP} {w : World} {o : Obj} {k : Nat} {la : Int} {s s' : RFS} {bs cs bs' cs' : List Nat} {A A' : World} (h : WkS P w o k la s bs cs A) (hf : Fr S A A') (hS : ∀ i ∈ P.fix, i ∉ S) (hp : Pair P.B P.C A' P.p P.q bs' cs' s') (hw : Fr [] w A') : WkS P w o k la s' bs' cs' A' :=
  ⟨hf.obj h.lp (hS _ (by simp [WkP.fix])), hf.obj h.df (hS _ (by simp [WkP.fix])), hf.obj h.rz (hS _ (by simp [WkP.fix])), hf.obj h.ag (hS _ (by simp [WkP.fix])), hf.obj h.x7 (hS _ (by simp [WkP.fix])), hf.obj h.x9 (hS _ (by simp [WkP.fix])), hf.obj h.xk (hS _ (by simp [WkP.fix])), hf.obj h.xl (hS _ (by simp [WkP.fix])), hf.obj h.bn (hS _ (by simp [WkP.fix])), hp, hw, h.nd, h.of, h.new, h.bw⟩
theorem WkS.keep {P : WkP} {w : World} {o : Obj} {k : Nat} {la : Int} {s : RFS} {bs cs : List Nat} {A A' : World} (h : WkS P w o k la s bs cs A) (hf : Fr [] A A') : WkS P w o k la s bs cs A' := h.step hf (by simp) (h.pr.keep hf) (h.fr.trans hf)
/-- what belongs to the files turns -/
theorem WkS.turn {P : WkP} {w : World} {o : Obj} {k : Nat} {la : Int} {s s' : RFS} {bs cs bs' cs' : List Nat} {A A' : World} (h : WkS P w o k la s bs cs A) (hf : Fr (bs ++ cs) A A') (hp : Pair P.B P.C A' P.p P.q bs' cs' s') : WkS P w o k la s' bs' cs' A' :=
  h.step hf h.off hp (PairG.clean h.pr h.bw.1 h.bw.2 h.fr hf)
theorem Pair.fr1 {B C p q : Nat} {bs cs : List Nat} {s : RFS} {A A' : World} {i : Nat} (h : Pair B C A p q bs cs s) (hf : Fr [i] A A') (hi : i ∉ bs ++ cs) : Pair B C A' p q bs cs s :=
  ⟨h.f.fr hf fun j hj hm => by
    simp at hm
    subst hm
    exact hi (List.mem_append_left _ hj), h.m.fr hf fun j hj hm => by
    simp at hm
    subst hm
    exact hi (List.mem_append_right _ hj), h.ap⟩
theorem WkS.nd' {P : WkP} (h : P.fix.Nodup) : (P.XK ≠ P.l ∧ P.XK ≠ P.D ∧ P.XK ≠ P.RZ ∧ P.XK ≠ P.AG ∧ P.XK ≠ P.X7 ∧ P.XK ≠ P.X9 ∧ P.XK ≠ P.XL ∧ P.XK ≠ P.Bn) ∧ (P.XL ≠ P.l ∧ P.XL ≠ P.D ∧ P.XL ≠ P.RZ ∧ P.XL ≠ P.AG ∧ P.XL ≠ P.X7 ∧ P.XL ≠ P.X9 ∧ P.XL ≠ P.XK ∧ P.XL ≠ P.Bn) ∧ (P.l ≠ P.D ∧ P.l ≠ P.RZ ∧ P.l ≠ P.AG ∧ P.l ≠ P.X7 ∧ P.l ≠ P.X9 ∧ P.l ≠ P.XK ∧ P.l ≠ P.XL ∧ P.l ≠ P.Bn) ∧ P.RZ ≠ P.D := by
  simp only [WkP.fix, List.nodup_cons, List.mem_cons, List.not_mem_nil, or_false, not_or] at h
  obtain ⟨⟨a1, a2, a3, a4, a5, a6, a7, a8⟩, ⟨b1, b2, b3, b4, b5, b6, b7⟩, ⟨c1, c2, c3, c4, c5, c6⟩, ⟨d1, d2, d3, d4, d5⟩, ⟨e1, e2, e3, e4⟩, ⟨f1, f2, f3⟩, ⟨g1, g2⟩, h1, _⟩ := h
  refine ⟨⟨?_, ?_, ?_, ?_, ?_, ?_, ?_, ?_⟩, ⟨?_, ?_, ?_, ?_, ?_, ?_, ?_, ?_⟩, ⟨?_, ?_, ?_, ?_, ?_, ?_, ?_, ?_⟩, ?_⟩ <;> first | assumption | exact Ne.symm ‹_›
theorem WkS.setK {P : WkP} {w : World} {o : Obj} {k : Nat} {la : Int} {s : RFS} {bs cs : List Nat} {A : World} (h : WkS P w o k la s bs cs A) (k' : Nat) : WkS P w o k' la s bs cs (A.setCell ⟨P.XK, 0, none⟩ (.int .i64 k')) := by
  have hf : Fr [P.XK] A (A.setCell ⟨P.XK, 0, none⟩ (.int .i64 k')) := (Fr.refl _ _).setCell (by simp) _
  have hx := h.off P.XK (by simp [WkP.fix])
  obtain ⟨⟨a1, a2, a3, a4, a5, a6, a7, a8⟩, _⟩ := WkS.nd' h.nd
  refine ⟨hf.obj h.lp (by simpa using a1.symm), hf.obj h.df (by simpa using a2.symm), hf.obj h.rz (by simpa using a3.symm), hf.obj h.ag (by simpa using a4.symm), hf.obj h.x7 (by simpa using a5.symm), hf.obj h.x9 (by simpa using a6.symm), by rw [heap_setCell_same _ _ 0 _ _ _ h.xk]; rfl, hf.obj h.xl (by simpa using a7.symm), hf.obj h.bn (by simpa using a8.symm), h.pr.fr1 hf hx, h.fr.next hf (by intro i hi hlt; simp at hi; have := h.new P.XK (by simp [WkP.fix]); omega), h.nd, h.of, h.new, h.bw⟩
theorem WkS.setL {P : WkP} {w : World} {o : Obj} {k : Nat} {la : Int} {s : RFS} {bs cs : List Nat} {A : World} (h : WkS P w o k la s bs cs A) (la' : Int) : WkS P w o k la' s bs cs (A.setCell ⟨P.XL, 0, none⟩ (.int .i64 la')) := by
  have hf : Fr [P.XL] A (A.setCell ⟨P.XL, 0, none⟩ (.int .i64 la')) := (Fr.refl _ _).setCell (by simp) _
  have hx := h.off P.XL (by simp [WkP.fix])
  obtain ⟨_, ⟨a1, a2, a3, a4, a5, a6, a7, a8⟩, _⟩ := WkS.nd' h.nd
  refine ⟨hf.obj h.lp (by simpa using a1.symm), hf.obj h.df (by simpa using a2.symm), hf.obj h.rz (by simpa using a3.symm), hf.obj h.ag (by simpa using a4.symm), hf.obj h.x7 (by simpa using a5.symm), hf.obj h.x9 (by simpa using a6.symm), hf.obj h.xk (by simpa using a7.symm), by rw [heap_setCell_same _ _ 0 _ _ _ h.xl]; rfl, hf.obj h.bn (by simpa using a8.symm), h.pr.fr1 hf hx, h.fr.next hf (by intro i hi hlt; simp at hi; have := h.new P.XL (by simp [WkP.fix]); omega), h.nd, h.of, h.new, h.bw⟩
/-- the loop's record turns -/
theorem WkS.putL {P : WkP} {w : World} {o o' : Obj} {k : Nat} {la : Int} {s : RFS} {bs cs : List Nat} {A : World} (h : WkS P w o k la s bs cs A) (ho : offO o') : WkS P w o' k la s bs cs (A.putObj P.l o') := by
  have hf : Fr [P.l] A (A.putObj P.l o') := (Fr.refl _ _).putObj (by simp) _
  have hx := h.off P.l (by simp [WkP.fix])
  obtain ⟨_, _, ⟨a1, a2, a3, a4, a5, a6, a7, a8⟩, _⟩ := WkS.nd' h.nd
  refine ⟨World.putObj_heap_same (Array.getElem?_eq_some_iff.1 h.lp).1, hf.obj h.df (by simpa using a1.symm), hf.obj h.rz (by simpa using a2.symm), hf.obj h.ag (by simpa using a3.symm), hf.obj h.x7 (by simpa using a4.symm), hf.obj h.x9 (by simpa using a5.symm), hf.obj h.xk (by simpa using a6.symm), hf.obj h.xl (by simpa using a7.symm), hf.obj h.bn (by simpa using a8.symm), h.pr.fr1 hf hx, h.fr.next hf (by intro i hi hlt; simp at hi; have := h.new P.l (by simp [WkP.fix]); omega), h.nd, ho, h.new, h.bw⟩
theorem offO_lp (fn : FuncId) (tmps : Array Value) (ps : Array Tmp) (assign body : Code) (D : Nat) (st : LoopState) (pe : Option Code) : offO (lpR fn tmps ps assign body D st pe) := by unfold lpR; trivial
set_option maxRecDepth 100000 in
set_option maxHeartbeats 6400000 in
theorem recfileWalks_walk (a : Option Addr) (c : Nat) (l : List UInt8) (wa wf wp ws : Int) (w : World) (hl : l.length ≤ 140737488351300) (hc : l.length ≤ c) (hno : a = none → c = 0) (hb : Bytes w a l) (hn : Nib w) :
    Calls Tryd.prog 10 #[.slice a l.length c, .agg #[.int .i64 wa, .int .i64 wf, .int .i64 wp, .int .i64 ws]] w fun e w' => e = .returned (.bool true) ∧ Fr [] w w' := by
  have HN := Lib.hid hn
  have HB := Lib.hid hb
  have HNO := Lib.hid hno
  have HC := Lib.hid hc
  clear hn hb hno hc
  refine (callsIn_wide (n := 5)).1 ?_
  refine callsIn_of_wp_marks Tryd.func10 rfl trivial ?_ rfl
  simp only [Tryd.ntmps10, List.size_toArray, List.length_cons, List.length_nil, Nat.reduceAdd, Nat.reduceSub, Array.replicate_succ, Array.replicate_zero, List.push_toArray, List.append_toArray, List.nil_append, List.cons_append]
  refine wpIn_wide.2 ?_
  obtain ⟨wz, hwz⟩ : ∃ wz, wz = (w.alloc (.cells #[.int .i64 wa, .int .i64 wf, .int .i64 wp, .int .i64 ws] 58)).alloc (.cells #[.bool false] 4) := ⟨_, rfl⟩
  go_upto_region 1 with fail
  rw [← hwz]
  have HFZ := Lib.hid (show Fr [] w wz by rw [hwz]; exact ((Fr.refl _ _).alloc _).alloc _)
  have HZ1 := Lib.hid (show wz.heap[w.heap.size]? = some (.cells #[.int .i64 wa, .int .i64 wf, .int .i64 wp, .int .i64 ws] 58) by rw [hwz]; exact ((Fr.refl [] _).alloc _).obj (heap_alloc_new w _) (by simp))
  have HZ2 := Lib.hid (show wz.heap[w.heap.size + 1]? = some (.cells #[.bool false] 4) by
    rw [hwz]
    have := heap_alloc_new (w.alloc (.cells #[.int .i64 wa, .int .i64 wf, .int .i64 wp, .int .i64 ws] 58)) (.cells #[.bool false] 4)
    rwa [World.size_alloc] at this)
  have HSZ := Lib.hid (show wz.heap.size = w.heap.size + 2 by rw [hwz]; simp)
  clear hwz
  have qF := eql_nilF
  have HNEW := Lib.hid (New_ok 4 1 3 wz (by omega) (by omega) (by omega) (by omega))
  go_wp2_with fail
  refine HNEW.out.mono ?_
  rintro e w1 ⟨rfl, -, hf1⟩
  have HF1 := Lib.hid (HFZ.out.trans hf1)
  have HA1 := Lib.hid (hf1.obj HZ1.out (by simp))
  have HR1 := Lib.hid (hf1.obj HZ2.out (by simp))
  clear hf1 HNEW
  go_wp2_with fail
  refine (All_F wz.heap.size w1).mono ?_
  rintro e w2 ⟨rfl, -, hf2, -⟩
  have HF2 := Lib.hid (HF1.out.trans hf2)
  have HA2 := Lib.hid (hf2.obj HA1.out (by simp))
  have HR2 := Lib.hid (hf2.obj HR1.out (by simp))
  clear hf2
  go_wp2_with fail
  refine (speaks09 w2 (nib_keep HN.out HF2.out)).mono ?_
  rintro e w3 ⟨rfl, hf3⟩
  have HF3 := Lib.hid (HF2.out.trans hf3)
  have HA3 := Lib.hid (hf3.obj HA2.out (by simp))
  have HR3 := Lib.hid (hf3.obj HR2.out (by simp))
  clear hf3 qF
  go_wp2_with fail
  refine (clone_any a c l w3 hl HNO.out (HB.out.keep HF3.out)).mono ?_
  rintro e w4 ⟨v, rfl, hv⟩
  obtain ⟨g, cap, rfl, hg, hg2, hb4, hf4⟩ := hv.bytes
  have HCAP := Lib.hid hv.cap
  have HB4 := Lib.hid hb4
  have HF4 := Lib.hid (HF3.out.trans hf4)
  have HA4 := Lib.hid (hf4.obj HA3.out (by simp))
  have HR4 := Lib.hid (hf4.obj HR3.out (by simp))
  clear hv hb4 hf4 hg hg2 HA2 HR2 HA3 HR3 HF1 HF2 HA1 HR1 HFZ HZ1 HZ2
  go_wp2_with fail
  refine (Open_F (some ⟨g, 0, none⟩) cap l w4 hl HCAP.out HB4.out (nib_keep HN.out HF4.out)).mono ?_
  rintro e w5 (⟨E, hE, rfl, hf5⟩ | ⟨kd, vr, sz, R, p, bs, hE, rfl, hr5, hf5⟩)
  · have HE := Lib.hid hE
    have HF5 := Lib.hid (HF4.out.trans hf5)
    have HR5 := Lib.hid (hf5.obj HR4.out (by simp))
    clear hf5 hE
    obtain ⟨w6, hw6⟩ : ∃ w6, w6 = w5.alloc (.cells #[.pointer none] 24) := ⟨_, rfl⟩
    have HF6 := Lib.hid (show Fr [] w w6 by rw [hw6]; exact HF5.out.alloc _)
    have HR6 := Lib.hid (show w6.heap[w.heap.size + 1]? = some (.cells #[.bool false] 4) by rw [hw6]; exact ((Fr.refl [] _).alloc _).obj HR5.out (by simp))
    go_wp2_with fail
    rw [← hw6]
    clear hw6
    refine (Open9 a c l w6 hl HC.out (HB.out.keep HF6.out)).mono ?_
    rintro e w7 (⟨E', hE', rfl, hf7⟩ | ⟨kd, vr, sz, R, q, cs, hE', -, -, -⟩)
    · obtain rfl : E' = E := by rw [HE.out] at hE'; cases hE'; rfl
      have hE0 : (E' != 0) = true := by
        rw [bne_iff_ne]
        rcases openB_err HE.out with h | h | h | h | h | h | h <;> omega
      have HF7 := Lib.hid (HF6.out.trans hf7)
      have HR7 := Lib.hid (hf7.obj HR6.out (by simp))
      have f1 : w7.frozen? ⟨w.heap.size + 1, 0, none⟩ = false := frozen_of_row _ _ 0 _ _ HR7.out
      have g1 := cell_of_row _ _ 0 _ _ _ HR7.out
      simp at g1
      have hs1 : w.heap.size + 1 < w7.heap.size := (Array.getElem?_eq_some_iff.1 HR7.out).1
      clear hf7 hE'
      go_wp2_with fail
      have hz : (w7.setCell ⟨w.heap.size + 1, 0, none⟩ (.bool true)).heap[w.heap.size + 1]? = some (.cells #[.bool true] 4) := by rw [heap_setCell_same _ _ 0 _ _ _ HR7.out]; rfl
      refine no_mark_ret (results_c1 rfl _ _ ⟨w.heap.size + 1, 0, none⟩ _ rfl (load_b (((Fr.refl [] _).alloc _).obj hz (by simp)))) ?_
      exact ⟨rfl, (HF7.out.setCell (by simp) _).alloc _⟩
    · exfalso
      rw [HE.out] at hE'
      cases hE'
  · have HE := Lib.hid hE
    have HF5 := Lib.hid (HF4.out.trans hf5)
    have HR5 := Lib.hid (hf5.obj HR4.out (by simp))
    have HA5 := Lib.hid (hf5.obj HA4.out (by simp))
    have HRF5 := Lib.hid hr5
    have HW4 := Lib.hid HF4.out.size
    clear hf5 hE hr5
    obtain ⟨w6, hw6⟩ : ∃ w6, w6 = w5.alloc (.cells #[.pointer (some ⟨p, 0, none⟩)] 24) := ⟨_, rfl⟩
    obtain ⟨X7, hX7⟩ : ∃ X7, X7 = w5.heap.size := ⟨_, rfl⟩
    have hf6 : Fr [] w5 w6 := by rw [hw6]; exact (Fr.refl _ _).alloc _
    have HX76 := Lib.hid (show w6.heap[X7]? = some (.cells #[.pointer (some ⟨p, 0, none⟩)] 24) by rw [hw6, hX7]; exact heap_alloc_new w5 _)
    have HF6 := Lib.hid (HF5.out.trans hf6)
    have HR6 := Lib.hid (hf6.obj HR5.out (by simp))
    have HA6 := Lib.hid (hf6.obj HA5.out (by simp))
    have HRF6 := Lib.hid (HRF5.out.keep hf6)
    have HX7L : Hid (w.heap.size + 1 < X7 ∧ X7 < w6.heap.size ∧ ∀ i ∈ bs, i < X7) := Lib.hid ⟨by rw [hX7]; have := (Array.getElem?_eq_some_iff.1 HR5.out).1; exact this, (Array.getElem?_eq_some_iff.1 HX76.out).1, fun i hi => by rw [hX7]; exact (HRF5.out.lt i hi).2⟩
    go_wp2_with fail
    rw [← hw6, ← hX7]
    clear hw6 hX7 hf6
    refine (Open9 a c l w6 hl HC.out (HB.out.keep HF6.out)).mono ?_
    rintro e w7 (⟨E', hE', -, -⟩ | ⟨kd', vr', sz', R', q, cs, hE', rfl, hm7, hf7⟩)
    · exfalso
      rw [HE.out] at hE'
      cases hE'
    have HEQ : kd' = kd ∧ vr' = vr ∧ sz' = sz ∧ R' = R := by
      rw [HE.out] at hE'
      simpa [eq_comm] using hE'
    obtain ⟨rfl, rfl, rfl, rfl⟩ := HEQ
    have HF7 := Lib.hid (HF6.out.trans hf7)
    have HR7 := Lib.hid (hf7.obj HR6.out (by simp))
    have HA7 := Lib.hid (hf7.obj HA6.out (by simp))
    have HX77 := Lib.hid (hf7.obj HX76.out (by simp))
    have HRF7 := Lib.hid (HRF6.out.keep hf7)
    have HM7 := Lib.hid hm7
    have HW6 := Lib.hid HF6.out.size
    have HX7M : Hid (X7 < w7.heap.size) := Lib.hid (by have := HX7L.out.2.1; have := hf7.size; omega)
    have HAP : Hid (∀ i ∈ bs, i ∉ cs) := Lib.hid (fun i hi hm => by have := HX7L.out.2.2 i hi; have := HX7L.out.2.1; have := (HM7.out.lt i hm).1; omega)
    clear hf7 hE' hm7
    have y7 : w7.cell? ⟨X7, 0, none⟩ = some (.pointer (some ⟨p, 0, none⟩)) := cell_of_row _ _ 0 _ _ _ HX77.out
    have hx7 : X7 < w7.heap.size := HX7M.out
    go_upto_region 9 with fail
    obtain ⟨w8, hw8⟩ : ∃ w8, w8 = ((w7.alloc (.cells #[.pointer (some ⟨q, 0, none⟩)] 48)).alloc (.cells #[.int .i64 0] 3)).alloc (.cells #[.int .i64 (-1)] 3) := ⟨_, rfl⟩
    rw [← hw8]
    obtain ⟨X9, hX9⟩ : ∃ X9, X9 = w7.heap.size := ⟨_, rfl⟩
    rw [← hX9]
    have hf8 : Fr [] w7 w8 := by rw [hw8]; exact (((Fr.refl _ _).alloc _).alloc _).alloc _
    have hx9 : w8.heap[X9]? = some (.cells #[.pointer (some ⟨q, 0, none⟩)] 48) := by rw [hw8, hX9]; exact (((Fr.refl [] _).alloc _).alloc _).obj (heap_alloc_new w7 _) (by simp)
    have hxk : w8.heap[X9 + 1]? = some (.cells #[.int .i64 0] 3) := by
      rw [hw8, hX9]
      have h := heap_alloc_new (w7.alloc (.cells #[.pointer (some ⟨q, 0, none⟩)] 48)) (.cells #[.int .i64 0] 3)
      rw [World.size_alloc] at h
      exact ((Fr.refl [] _).alloc _).obj h (by simp)
    have hxl : w8.heap[X9 + 2]? = some (.cells #[.int .i64 (-1)] 3) := by
      rw [hw8, hX9]
      have h := heap_alloc_new ((w7.alloc (.cells #[.pointer (some ⟨q, 0, none⟩)] 48)).alloc (.cells #[.int .i64 0] 3)) (.cells #[.int .i64 (-1)] 3)
      simpa [World.size_alloc] using h
    have hs8 : w8.heap.size = X9 + 3 := by rw [hw8, hX9]; simp
    have HF8 := Lib.hid (HF7.out.trans hf8)
    have HX98 := Lib.hid hx9
    have HXK8 := Lib.hid hxk
    have HXL8 := Lib.hid hxl
    have HR8 := Lib.hid (hf8.obj HR7.out (by simp))
    have HA8 := Lib.hid (hf8.obj HA7.out (by simp))
    have HX78 := Lib.hid (hf8.obj HX77.out (by simp))
    have HRF8 := Lib.hid (HRF7.out.keep hf8)
    have HM8 := Lib.hid (HM7.out.keep hf8)
    have HS8 := Lib.hid hs8
    have HX79 := Lib.hid (show X7 < X9 by omega)
    have y8 : w8.cell? ⟨X7, 0, none⟩ = some (.pointer (some ⟨p, 0, none⟩)) := hf8.cell y7 (by simp)
    have HX9E := Lib.hid hX9
    clear hw8 hf8 hx9 hxk hxl hs8 y7 hx7 hX9
    go_wp2_with fail
    refine (All_F p w8).mono ?_
    rintro e w9 ⟨rfl, hbn, hf9, hs9⟩
    have HBN := Lib.hid hbn
    have HF89 := Lib.hid hf9
    have HS9 := Lib.hid hs9
    clear hbn hf9 hs9 y8
    go_wp2_with fail
    refine (wpIn_wide (n := 5)).1 ?_
    refine range_wide rfl (enters_of Tryd.func57 (by kernel_rfl) rfl) ?_
    intro fn W1 hlr hD hf1 hsz1
    obtain ⟨D, hDD⟩ : ∃ D, D = w9.heap.size := ⟨_, rfl⟩
    rw [← hDD] at hlr hD hsz1 ⊢
    obtain ⟨Bn, hBn⟩ : ∃ Bn, Bn = w8.heap.size := ⟨_, rfl⟩
    rw [← hBn] at HBN hlr ⊢
    obtain ⟨R, hR, hlr2⟩ := lp_take hlr
    obtain ⟨P, hP⟩ : ∃ P : WkP, P = ⟨D + 1, D, w.heap.size + 1, w.heap.size, X7, X9, X9 + 1, X9 + 1 + 1, Bn, p, q, w4.heap.size, w6.heap.size, wa, wf, wp, ws⟩ := ⟨_, rfl⟩
    have hord : w.heap.size + 1 < X7 ∧ X7 < X9 ∧ Bn = X9 + 3 ∧ D = Bn + 1 := ⟨HX7L.out.1, HX79.out, by rw [hBn]; exact HS8.out, by rw [hDD, hBn]; exact HS9.out⟩
    obtain ⟨o1, o2, o3, o4⟩ := hord
    have hf81 := HF89.out.trans hf1
    have HST : Hid (WkS P w (R .ready none) 0 (((0 : Nat) : Int) - 1) ⟨kd', vr', sz', 0, R'⟩ bs cs W1) := Lib.hid (by
      subst hP
      refine ⟨hlr2, hD, hf81.obj HR8.out (by simp), hf81.obj HA8.out (by simp), hf81.obj HX78.out (by simp), hf81.obj HX98.out (by simp), hf81.obj HXK8.out (by simp), hf81.obj HXL8.out (by simp), hf1.obj HBN.out (by simp), ⟨HRF8.out.keep hf81, HM8.out.keep hf81, HAP.out⟩, HF8.out.trans hf81, ?_, by rw [hR]; exact offO_lp .., ?_, HW4.out, HW6.out⟩
      · simp [WkP.fix]; omega
      · intro i hi; simp [WkP.fix] at hi; omega)
    have HRR := Lib.hid hR
    have HPP := Lib.hid hP
    have e4 : P.l = D + 1 ∧ P.D = D ∧ P.RZ = w.heap.size + 1 ∧ P.AG = w.heap.size ∧ P.X7 = X7 ∧ P.X9 = X9 ∧ P.XK = X9 + 1 ∧ P.XL = X9 + 1 + 1 ∧ P.Bn = Bn := by subst hP; exact ⟨rfl, rfl, rfl, rfl, rfl, rfl, rfl, rfl, rfl⟩
    have e5 : P.p = p ∧ P.q = q ∧ P.B = w4.heap.size ∧ P.C = w6.heap.size ∧ P.wa = wa ∧ P.wf = wf ∧ P.wp = wp ∧ P.ws = ws := by subst hP; exact ⟨rfl, rfl, rfl, rfl, rfl, rfl, rfl, rfl⟩
    have HE4 := Lib.hid e4
    have HE5 := Lib.hid e5
    have HO3 := Lib.hid o3
    have HO4 := Lib.hid o4
    have VW : Hid (∀ (o : Obj) (k : Nat) (la : Int) (s : RFS) (bs cs : List Nat) (A : World), WkS P w o k la s bs cs A → Pair w4.heap.size w6.heap.size A p q bs cs s ∧ A.cell? ⟨X7, 0, none⟩ = some (.pointer (some ⟨p, 0, none⟩)) ∧ A.cell? ⟨X9, 0, none⟩ = some (.pointer (some ⟨q, 0, none⟩)) ∧ A.cell? ⟨X9 + 1, 0, none⟩ = some (.int .i64 k) ∧ A.cell? ⟨X9 + 1 + 1, 0, none⟩ = some (.int .i64 la) ∧
        A.cell? ⟨w.heap.size, 0, none⟩ = some (.int .i64 wa) ∧ A.cell? ⟨w.heap.size, 1, none⟩ = some (.int .i64 wf) ∧ A.cell? ⟨w.heap.size, 2, none⟩ = some (.int .i64 wp) ∧ A.cell? ⟨w.heap.size, 3, none⟩ = some (.int .i64 ws) ∧ A.frozen? ⟨X9 + 1, 0, none⟩ = false ∧ A.frozen? ⟨X9 + 1 + 1, 0, none⟩ = false ∧ A.heap[w.heap.size + 1]? = some (.cells #[.bool false] 4)) := Lib.hid fun o k la s bs cs A h => by
      subst hP
      obtain ⟨v0, v1, v2, v3⟩ := four h.ag
      exact ⟨h.pr, cell_of_row _ _ 0 _ _ _ h.x7, cell_of_row _ _ 0 _ _ _ h.x9, cell_of_row _ _ 0 _ _ _ h.xk, cell_of_row _ _ 0 _ _ _ h.xl, v0, v1, v2, v3, frozen_of_row _ _ 0 _ _ h.xk, frozen_of_row _ _ 0 _ _ h.xl, h.rz⟩
    clear hP e4 e5 hDD hBn o3 o4 o1 o2
    refine (AllF1_in 4 (D + 1) Bn p w4.heap.size W1 ⟨kd', vr', sz', 0, R'⟩ (fun id s A => ∃ (k la : Nat) (bs cs : List Nat), WkS P w (R .ready none) k ((la : Int) - 1) s bs cs A ∧ k ≤ id ∧ la ≤ id ∧ la ≤ 65536 ∧ ∀ i, la ≤ i → i < id → s.R.getD i none = none)
      (fun A => ∃ (c : Code) (k : Nat) (la : Int) (s : RFS) (bs cs : List Nat), WkS P w (R .done (some c)) k la s bs cs A ∧ (k : Int) = ws ∧ c = .exit 0) ?_ ?_ ?_ ?_).mono ?_
    · rintro id s A ⟨k, la, bs, cs, h, -⟩
      obtain ⟨e1, -, e2, -⟩ := HE5.out
      have h1 := h.pr.f
      rw [e1, e2] at h1
      refine ⟨⟨bs, h1⟩, ?_⟩
      have h2 := cell_of_row _ _ 0 _ _ _ h.bn
      rw [HE4.out.2.2.2.2.2.2.2.2, e1] at h2
      exact h2
    · exact ⟨0, 0, bs, cs, HST.out, Nat.le_refl _, Nat.le_refl _, by omega, fun i _ h => absurd h (by omega)⟩
    · rintro id s A ⟨k, la, bs, cs, h, hk, hla, hla6, hz⟩ hid hn
      refine ⟨k, la, bs, cs, h, by omega, by omega, hla6, fun i h1 h2 => ?_⟩
      by_cases h3 : i = id
      · rw [h3]; exact hn
      · exact hz i h1 (by omega)
    · rintro id s d g c A W2 ⟨k, la, bs, cs, hst, hk, hla, hla6, hz⟩ hd hfA hg hown
      have h2 := hst.keep hfA
      have hl2 := h2.lp
      rw [HE4.out.1, hR] at hl2
      have HFX : Hid (∀ i ∈ P.fix, i < A.heap.size) := Lib.hid hst.lt
      have HAW : Hid (w.heap.size ≤ A.heap.size) := Lib.hid hst.fr.size
      have HBC : Hid (∀ i ∈ bs ++ cs, i < A.heap.size) := Lib.hid fun i hi => by
        rcases List.mem_append.1 hi with hi | hi
        · exact (hst.pr.f.lt i hi).2
        · exact (hst.pr.m.lt i hi).2
      have HA2 := Lib.hid hfA.size
      have hdl0 : d.length + 1 ≤ 255 := by have := hst.pr.f.ok.dat.get hd; have := hst.pr.f.ok.hi; omega
      have HS2 := Lib.hid h2
      have HOWN := Lib.hid hown
      have HG := Lib.hid (show A.heap.size ≤ g from hg)
      have HD := Lib.hid hd
      have HZ := Lib.hid hz
      clear hlr hlr2 hD hf1 hsz1 hst hfA hg hown hd hz h2 hf81 HST
      refine yield_wide hl2 rfl ?_
      have HL2 := Lib.hid hl2
      clear hl2
      gi_wp2_with fail
      refine ⟨HL2.out, ?_⟩
      generalize hWb : World.putObj W2 (D + 1) _ = Wb
      have HSB : Hid (WkS P w (R .busy none) k ((la : Int) - 1) s bs cs Wb) := Lib.hid (by
        have h := HS2.out.putL (o' := R .busy none) (by rw [HRR.out]; exact offO_lp ..)
        rw [HE4.out.1] at h
        rw [← hWb]
        rw [HRR.out] at h ⊢
        exact h)
      have HOWB : Hid (Wb.ownsRow A.heap.size 5 1 (.slice (some ⟨g, 0, none⟩) d.length c) d.length (d.map B8)) := Lib.hid (by
        rw [← hWb]
        exact own_fr HOWN.out ((Fr.refl [D + 1] W2).putObj (by simp) _) (fun i hi hm => by
          have h1 : g = i := by simpa [Value.ownBlock] using hi
          simp at hm
          have := HFX.out P.l (by simp [WkP.fix])
          rw [HE4.out.1] at this
          have := HG.out
          omega))
      have HA3' : Hid (A.heap.size ≤ Wb.heap.size) := Lib.hid (by rw [← hWb]; have := HA2.out; simpa using this)
      clear hWb
      obtain ⟨hpr, v7, v9, vk, vl, va0, va1, va2, va3, fk, fl, -⟩ := VW.out _ _ _ _ _ _ _ HSB.out
      have HPR := Lib.hid hpr
      have hid65 : id < 65536 := by have := (List.getElem?_eq_some_iff.1 HD.out).1; have := hpr.f.ok.len; omega
      clear hpr
      have HNX := Lib.hid (next9_hit _ cs Wb q s ((la : Int) - 1) la id HPR.out.m rfl hla ⟨d, HD.out⟩ HZ.out)
      gi_wp2_with fail
      refine ⟨trivial, (CallsIn.inRound _ (callsIn_wide.2 HNX.out)).mono ?_⟩
      rintro e w' ⟨rfl, rfl⟩
      have HSC := Lib.hid (HSB.out.setL (id : Int))
      rw [HE4.out.2.2.2.2.2.2.2.1] at HSC
      have HDB := Lib.hid trivial
      have HOWC : Hid ((Wb.setCell ⟨X9 + 1 + 1, 0, none⟩ (.int .i64 (id : Int))).ownsRow A.heap.size 5 1 (.slice (some ⟨g, 0, none⟩) d.length c) d.length (d.map B8)) := Lib.hid (own_fr HOWB.out ((Fr.refl [X9 + 1 + 1] Wb).setCell (by simp) _) (fun i hi hm => by
          have h1 : g = i := by simpa [Value.ownBlock] using hi
          simp at hm
          have := HFX.out P.XL (by simp [WkP.fix])
          rw [HE4.out.2.2.2.2.2.2.2.1] at this
          have := HG.out
          omega))
      have HA3C : Hid (A.heap.size ≤ (Wb.setCell ⟨X9 + 1 + 1, 0, none⟩ (.int .i64 (id : Int))).heap.size) := Lib.hid (by have := HA3'.out; simpa using this)
      obtain ⟨hpr, -⟩ := VW.out _ _ _ _ _ _ _ HSC.out
      have HPC := Lib.hid hpr
      have HGD : Hid (getRd s.R (id : Nat) = d) := Lib.hid (getRd_some HD.out).2
      have HHE : Hid (∀ W, Fr [] (Wb.setCell ⟨X9 + 1 + 1, 0, none⟩ (.int .i64 (id : Int))) W → Calls Tryd.prog 32 #[.pointer (some ⟨q, 0, none⟩), .int .i64 (id : Nat)] W fun e w' => ∃ v, e = .returned v ∧ Fresh W.heap.size W w' v d) := Lib.hid fun W hW => by
        have h := held9 _ cs W q s (id : Nat) (HPC.out.m.keep hW)
        rw [HGD.out] at h
        exact h
      have hdd : ((id : Int) != (id : Int)) = false := by simp
      clear HNX HDB hpr
      gi_wp2_with fail
      refine ⟨trivial, (CallsIn.inRound _ (callsIn_wide.2 (HHE.out _ (Fr.refl _ _)))).mono ?_⟩
      rintro e w3' ⟨v, rfl, hv⟩
      obtain ⟨g2, c2, rfl, -, -, hb2, hf2⟩ := hv.bytes
      generalize hWC : Wb.setCell ⟨X9 + 1 + 1, 0, none⟩ (.int .i64 (id : Int)) = WC at *
      have HWC := Lib.hid hWC
      have HS3 := Lib.hid (HSC.out.keep hf2)
      have HOW3 := Lib.hid (own_fr HOWC.out hf2 (by simp))
      have HA3 := Lib.hid (show A.heap.size ≤ w3'.heap.size by have := HA3C.out; have := hf2.size; omega)
      have HSM := Lib.hid (same_any (some ⟨g, 0, none⟩) (some ⟨g2, 0, none⟩) c c2 d d w3' (fun h => by cases h) (fun h => by cases h) (own_by9 HOW3.out).1 hb2)
      rw [beq_self_eq_true] at HSM
      have hdl : d.length ≤ 255 := by have := hdl0; omega
      have HSPO := Lib.hid (spoilF_any w3' A.heap.size (some ⟨g, 0, none⟩) d.length c (OwnB.of HOW3.out) (by omega) HA3.out)
      clear hv hb2 hf2 hWC HHE vl v7 v9 vk va0 va1 va2 va3 fk fl
      gi_wp2_with fail
      refine ⟨trivial, (CallsIn.inRound _ (callsIn_wide.2 HSM.out)).mono ?_⟩
      rintro e w' ⟨rfl, rfl⟩
      gi_wp2_with fail
      refine ⟨trivial, (CallsIn.inRound _ (callsIn_wide.2 HSPO.out)).mono ?_⟩
      rintro e WX ⟨⟨v5, rfl⟩, hf5⟩
      have hf5' : Fr [g] w3' WX := hf5
      have HSX : Hid (WkS P w (R .busy none) k (id : Int) s bs cs WX) := Lib.hid (HS3.out.step hf5' (fun i hi hm => by simp at hm; subst hm; have := HFX.out i hi; have := HG.out; omega) (HS3.out.pr.fr1 hf5' (fun hm => by have := HBC.out g hm; have := HG.out; omega)) (HS3.out.fr.next hf5' (by intro i hi hlt; simp at hi; have := HG.out; have := HAW.out; omega)))
      clear hf5 hf5' HSM HSPO
      obtain ⟨hpr, v7, v9, vk, vl, va0, va1, va2, va3, fk, fl, -⟩ := VW.out _ _ _ _ _ _ _ HSX.out
      have HPX := Lib.hid hpr
      clear hpr
      by_cases hka : (k : Int) = wa
      · have hka' : ((k : Int) == wa) = true := by rw [beq_iff_eq]; exact hka
        have HFE := Lib.hid (Free_F w4.heap.size bs WX p s wf HPX.out.f)
        gi_wp2_with fail
        refine ⟨trivial, (CallsIn.inRound _ (callsIn_wide.2 HFE.out)).mono ?_⟩
        rintro e w6' ⟨rfl, bs6, h6, s6⟩
        obtain ⟨m6, ap6⟩ := HPX.out.prog h6 s6
        have HFE9 := Lib.hid (Free9 w6.heap.size cs w6' q s wf m6)
        have n7 : X7 ∉ bs := fun hm => HSX.out.off P.X7 (by simp [WkP.fix]) (by rw [HE4.out.2.2.2.2.1]; exact List.mem_append_left _ hm)
        have n9 : X9 ∉ bs := fun hm => HSX.out.off P.X9 (by simp [WkP.fix]) (by rw [HE4.out.2.2.2.2.2.1]; exact List.mem_append_left _ hm)
        have n0 : w.heap.size ∉ bs := fun hm => HSX.out.off P.AG (by simp [WkP.fix]) (by rw [HE4.out.2.2.2.1]; exact List.mem_append_left _ hm)
        have u9 := s6.1.cell v9 n9
        have ua1 := s6.1.cell va1 n0
        have HR6' := Lib.hid h6
        have HS6' := Lib.hid s6
        have HAP6 := Lib.hid ap6
        clear h6 s6 m6 ap6 v7 v9 vk vl va0 va1 va2 va3 fk fl
        gi_wp2_with fail
        refine ⟨trivial, (CallsIn.inRound _ (callsIn_wide.2 HFE9.out)).mono ?_⟩
        rintro e WY ⟨rfl, cs7, h7, s7⟩
        have HSY : Hid (WkS P w (R .busy none) k (id : Int) (freS s wf) bs6 cs7 WY) := Lib.hid (HSX.out.turn (fr_both HS6'.out.1 s7.1) (by obtain ⟨e1, e2, e3, e4, -⟩ := HE5.out; rw [e1, e2, e3, e4]; exact Pair.doc HR6'.out HAP6.out h7 s7))
        clear h7 s7 u9 ua1 HFE HFE9
        obtain ⟨s1, hs1⟩ : ∃ s1, s1 = freS s wf := ⟨_, rfl⟩
        rw [← hs1] at HSY
        clear hs1
        obtain ⟨hpr, v7, v9, vk, vl, va0, va1, va2, va3, fk, fl, -⟩ := VW.out _ _ _ _ _ _ _ HSY.out
        have HPY := Lib.hid hpr
        obtain ⟨j, hj, ej⟩ := mask255 wp
        obtain ⟨m, hm⟩ : ∃ m, m = s1.sz - 1 := ⟨_, rfl⟩
        have hlo := hpr.f.ok.lo
        have hhi := hpr.f.ok.hi
        have vq : WY.cell? ⟨q, 2, none⟩ = some (.int .i64 (s1.sz : Int)) := by
          obtain ⟨v, X, hh, -⟩ := hpr.m
          exact (four hh.obj).2.2.1
        have e1 : IntKind.i64.wrap ((s1.sz : Int) - 1) = (m : Int) := by rw [IntWalk.i64_in _ (by omega)]; omega
        have hmk := make8 m (by omega)
        have HMB : Hid (m ≤ 1000000) := Lib.hid (by omega)
        have HPUT : Hid (∀ (W : World) (v : Value), v = .slice (some ⟨WY.drew.heap.size, 0, none⟩) m m → W = WY.drew.alloc (.cells ((zs m).map B8).toArray 5) → Calls Tryd.prog 19 #[.pointer (some ⟨p, 0, none⟩), .int .i64 j, v] W fun e w' => e = .returned (.int .i64 (putE s1 j m)) ∧ ∃ bs', RF w4.heap.size bs' w' p (putS s1 j (zs m)) ∧ Stp bs6 WY bs' w') := Lib.hid fun W v hv hW => by
          have hfW : Fr [] WY W := by rw [hW]; exact ((Fr.refl [] WY).drew).alloc _
          have hown := own_mk WY.drew m HMB.out
          rw [← hW] at hown
          have h := Put_F w4.heap.size bs6 W p s1 j (some ⟨WY.drew.heap.size, 0, none⟩) m (zs m) (HPY.out.f.keep hfW) (by rw [zs_length]; have := HMB.out; omega) (fun h => by cases h) (own_bytes (l := zs m) (g := WY.drew.heap.size) (cap := m) (B := WY.drew.heap.size) (e := 5) (w := W) (by rw [zs_length]; exact hown))
          rw [zs_length, ← hv] at h
          refine h.mono ?_
          rintro e w' ⟨he, bs', h1, h2⟩
          exact ⟨he, bs', h1, Stp.keepL hfW h2⟩
        clear hpr hm hka hka' HSX HPX
        gi_wp2_with fail
        refine round_late (fun w' => w'.cell? ⟨X7, 0, none⟩ = some (.pointer (some ⟨p, 0, none⟩)) ∧ w'.cell? ⟨X9, 0, none⟩ = some (.pointer (some ⟨q, 0, none⟩)) ∧ w'.cell? ⟨q, 2, none⟩ = some (.int .i64 (s1.sz : Int))) [8] (by kernel_rfl) (by kernel_rfl) (by exact ⟨v7, v9, vq⟩) (fun hHd0 => ?_)
        refine wpAnyL_take (i := 0) (v := ?_) rfl (by kernel_rfl) (by kernel_rfl) (by kernel_rfl) (by kernel_rfl) (by kernel_rfl) (fun _ _ _ h => h) (Or.inl ⟨by rfl, ?_⟩) hHd0 ?_
        rotate_left
        · (intro w hSw; (try dsimp only at hSw); go_simp; (try with_reducible rfl))
        try simp only [Act.put, List.setIfInBounds_toArray, List.set_cons_zero, List.set_cons_succ, List.getElem_toArray, List.getElem_cons_zero, List.getElem_cons_succ]
        refine wpAnyL_pure (i := 1) (v := ?_) rfl (by kernel_rfl) (by kernel_rfl) (by kernel_rfl) (by kernel_rfl) (by kernel_rfl) (fun _ _ _ h => h) (Or.inl ⟨by rfl, ?_⟩) (fun _ => hHd0) ?_
        rotate_left
        · (intro w _; go_simp; (try with_reducible rfl))
        try simp only [Act.put, List.setIfInBounds_toArray, List.set_cons_zero, List.set_cons_succ, List.getElem_toArray, List.getElem_cons_zero, List.getElem_cons_succ]
        refine wpAnyL_take (i := 2) (v := ?_) rfl (by kernel_rfl) (by kernel_rfl) (by kernel_rfl) (by kernel_rfl) (by kernel_rfl) (fun _ _ _ h => h) (Or.inl ⟨by rfl, ?_⟩) hHd0 ?_
        rotate_left
        · (intro w hSw; (try dsimp only at hSw); go_simp; (try with_reducible rfl))
        try simp only [Act.put, List.setIfInBounds_toArray, List.set_cons_zero, List.set_cons_succ, List.getElem_toArray, List.getElem_cons_zero, List.getElem_cons_succ]
        refine wpAnyL_pure (i := 3) (v := ?_) rfl (by kernel_rfl) (by kernel_rfl) (by kernel_rfl) (by kernel_rfl) (by kernel_rfl) (fun _ _ _ h => h) (Or.inl ⟨by rfl, ?_⟩) (fun _ => hHd0) ?_
        rotate_left
        · (intro w _; go_simp; (try with_reducible rfl))
        try simp only [Act.put, List.setIfInBounds_toArray, List.set_cons_zero, List.set_cons_succ, List.getElem_toArray, List.getElem_cons_zero, List.getElem_cons_succ]
        refine wpAnyL_pure (i := 4) (v := ?_) rfl (by kernel_rfl) (by kernel_rfl) (by kernel_rfl) (by kernel_rfl) (by kernel_rfl) (fun _ _ _ h => h) (Or.inl ⟨by rfl, ?_⟩) (fun _ => hHd0) ?_
        rotate_left
        · (intro w _; go_simp; (try with_reducible rfl))
        try simp only [Act.put, List.setIfInBounds_toArray, List.set_cons_zero, List.set_cons_succ, List.getElem_toArray, List.getElem_cons_zero, List.getElem_cons_succ]
        refine wpAnyL_take (i := 5) (v := ?_) rfl (by kernel_rfl) (by kernel_rfl) (by kernel_rfl) (by kernel_rfl) (by kernel_rfl) (fun _ _ _ h => h) (Or.inl ⟨by rfl, ?_⟩) hHd0 ?_
        rotate_left
        · (intro w hSw; (try dsimp only at hSw); go_simp; (try with_reducible rfl))
        try simp only [Act.put, List.setIfInBounds_toArray, List.set_cons_zero, List.set_cons_succ, List.getElem_toArray, List.getElem_cons_zero, List.getElem_cons_succ]
        refine wpAnyL_take (i := 6) (v := ?_) rfl (by kernel_rfl) (by kernel_rfl) (by kernel_rfl) (by kernel_rfl) (by kernel_rfl) (fun _ _ _ h => h) (Or.inl ⟨by rfl, ?_⟩) hHd0 ?_
        rotate_left
        · (intro w hSw; (try dsimp only at hSw); go_simp; (try with_reducible rfl))
        try simp only [Act.put, List.setIfInBounds_toArray, List.set_cons_zero, List.set_cons_succ, List.getElem_toArray, List.getElem_cons_zero, List.getElem_cons_succ]
        refine wpAnyL_ready (rs := [7]) (by kernel_rfl) (by simp) ?_
        refine (AllReadyL.cons rfl (fun K hK => ?_) AllReadyL.nil)
        go_simp
        refine hK.out _ _ (by exact ⟨((Fr.refl [] WY).drew.alloc _).cell v7 (by simp), ((Fr.refl [] WY).drew.alloc _).cell v9 (by simp), ((Fr.refl [] WY).drew.alloc _).cell vq (by simp)⟩) (fun hHd1 => ?_)
        clear hK K hHd0
        try simp only [Act.put, List.setIfInBounds_toArray, List.set_cons_zero, List.set_cons_succ, List.getElem_toArray, List.getElem_cons_zero, List.getElem_cons_succ]
        refine wpAnyL_ready (rs := [8]) (by kernel_rfl) (by simp) ?_
        refine (AllReadyL.consLate rfl (by kernel_rfl) (fun K hK => ?_) AllReadyL.nil)
        go_simp
        refine (HPUT.out _ _ rfl rfl).mono ?_
        rintro e w8' ⟨rfl, bs8, h8, s8⟩
        go_simp
        refine hK.out _ _ ?_
        clear hK K hHd1
        try simp only [Act.put, List.setIfInBounds_toArray, List.set_cons_zero, List.set_cons_succ, List.getElem_toArray, List.getElem_cons_zero, List.getElem_cons_succ]
        refine wpAnyL_done (by kernel_rfl) ?_ _
        refine NoOut.normal ?_
        obtain ⟨m8, ap8⟩ := HPY.out.prog h8 s8
        have n9 : X9 ∉ bs6 := fun hm => HSY.out.off P.X9 (by simp [WkP.fix]) (by rw [HE4.out.2.2.2.2.2.1]; exact List.mem_append_left _ hm)
        have nq : q ∉ bs6 := fun hm => by
          obtain ⟨v, X, hh, hc⟩ := HPY.out.m
          exact HPY.out.ap _ hm (by rw [hc]; exact List.mem_cons_self)
        have z9 := s8.1.cell v9 n9
        have zq := s8.1.cell vq nq
        have HR8' := Lib.hid h8
        have HS8' := Lib.hid s8
        have HM8' := Lib.hid m8
        have HAP8 := Lib.hid ap8
        obtain ⟨WZ, hWZ⟩ : ∃ WZ : World, WZ = w8' := ⟨_, rfl⟩
        subst hWZ
        have HPUT9 : Hid (∀ (W : World) (v : Value), v = .slice (some ⟨WZ.drew.heap.size, 0, none⟩) m m → W = WZ.drew.alloc (.cells ((zs m).map B8).toArray 5) → Calls Tryd.prog 34 #[.pointer (some ⟨q, 0, none⟩), .int .i64 j, v] W fun e w' => e = .returned (.int .i64 (putE s1 j m)) ∧ ∃ cs', MF w6.heap.size cs' w' q (putS s1 j (zs m)) ∧ Stp cs7 WZ cs' w') := Lib.hid fun W v hv hW => by
          have hfW : Fr [] WZ W := by rw [hW]; exact ((Fr.refl [] WZ).drew).alloc _
          have hown := own_mk WZ.drew m HMB.out
          rw [← hW] at hown
          have h := Put9 w6.heap.size cs7 W q s1 j (some ⟨WZ.drew.heap.size, 0, none⟩) m (zs m) (HM8'.out.keep hfW) (by rw [zs_length]; have := HMB.out; omega) (own_bytes (l := zs m) (g := WZ.drew.heap.size) (cap := m) (B := WZ.drew.heap.size) (e := 5) (w := W) (by rw [zs_length]; exact hown)) (fun ad e hm => by cases e; have := (HM8'.out.lt _ hm).2; exact absurd this (Nat.lt_irrefl _))
          rw [zs_length, ← hv] at h
          refine h.mono ?_
          rintro e w' ⟨he, cs', h1, h2⟩
          exact ⟨he, cs', h1, Stp.keepL hfW h2⟩
        clear h8 s8 m8 ap8 HPUT v7 v9 vk vl va0 va1 va2 va3 fk fl vq
        gi_wp2_with fail
        refine round_late (fun w' => w'.cell? ⟨X9, 0, none⟩ = some (.pointer (some ⟨q, 0, none⟩)) ∧ w'.cell? ⟨q, 2, none⟩ = some (.int .i64 (s1.sz : Int))) [8] (by kernel_rfl) (by kernel_rfl) (by exact ⟨z9, zq⟩) (fun hHd0 => ?_)
        refine wpAnyL_take (i := 0) (v := ?_) rfl (by kernel_rfl) (by kernel_rfl) (by kernel_rfl) (by kernel_rfl) (by kernel_rfl) (fun _ _ _ h => h) (Or.inl ⟨by rfl, ?_⟩) hHd0 ?_
        rotate_left
        · (intro w hSw; (try dsimp only at hSw); go_simp; (try with_reducible rfl))
        try simp only [Act.put, List.setIfInBounds_toArray, List.set_cons_zero, List.set_cons_succ, List.getElem_toArray, List.getElem_cons_zero, List.getElem_cons_succ]
        refine wpAnyL_pure (i := 1) (v := ?_) rfl (by kernel_rfl) (by kernel_rfl) (by kernel_rfl) (by kernel_rfl) (by kernel_rfl) (fun _ _ _ h => h) (Or.inl ⟨by rfl, ?_⟩) (fun _ => hHd0) ?_
        rotate_left
        · (intro w _; go_simp; (try with_reducible rfl))
        try simp only [Act.put, List.setIfInBounds_toArray, List.set_cons_zero, List.set_cons_succ, List.getElem_toArray, List.getElem_cons_zero, List.getElem_cons_succ]
        refine wpAnyL_take (i := 2) (v := ?_) rfl (by kernel_rfl) (by kernel_rfl) (by kernel_rfl) (by kernel_rfl) (by kernel_rfl) (fun _ _ _ h => h) (Or.inl ⟨by rfl, ?_⟩) hHd0 ?_
        rotate_left
        · (intro w hSw; (try dsimp only at hSw); go_simp; (try with_reducible rfl))
        try simp only [Act.put, List.setIfInBounds_toArray, List.set_cons_zero, List.set_cons_succ, List.getElem_toArray, List.getElem_cons_zero, List.getElem_cons_succ]
        refine wpAnyL_pure (i := 3) (v := ?_) rfl (by kernel_rfl) (by kernel_rfl) (by kernel_rfl) (by kernel_rfl) (by kernel_rfl) (fun _ _ _ h => h) (Or.inl ⟨by rfl, ?_⟩) (fun _ => hHd0) ?_
        rotate_left
        · (intro w _; go_simp; (try with_reducible rfl))
        try simp only [Act.put, List.setIfInBounds_toArray, List.set_cons_zero, List.set_cons_succ, List.getElem_toArray, List.getElem_cons_zero, List.getElem_cons_succ]
        refine wpAnyL_pure (i := 4) (v := ?_) rfl (by kernel_rfl) (by kernel_rfl) (by kernel_rfl) (by kernel_rfl) (by kernel_rfl) (fun _ _ _ h => h) (Or.inl ⟨by rfl, ?_⟩) (fun _ => hHd0) ?_
        rotate_left
        · (intro w _; go_simp; (try with_reducible rfl))
        try simp only [Act.put, List.setIfInBounds_toArray, List.set_cons_zero, List.set_cons_succ, List.getElem_toArray, List.getElem_cons_zero, List.getElem_cons_succ]
        refine wpAnyL_take (i := 5) (v := ?_) rfl (by kernel_rfl) (by kernel_rfl) (by kernel_rfl) (by kernel_rfl) (by kernel_rfl) (fun _ _ _ h => h) (Or.inl ⟨by rfl, ?_⟩) hHd0 ?_
        rotate_left
        · (intro w hSw; (try dsimp only at hSw); go_simp; (try with_reducible rfl))
        try simp only [Act.put, List.setIfInBounds_toArray, List.set_cons_zero, List.set_cons_succ, List.getElem_toArray, List.getElem_cons_zero, List.getElem_cons_succ]
        refine wpAnyL_take (i := 6) (v := ?_) rfl (by kernel_rfl) (by kernel_rfl) (by kernel_rfl) (by kernel_rfl) (by kernel_rfl) (fun _ _ _ h => h) (Or.inl ⟨by rfl, ?_⟩) hHd0 ?_
        rotate_left
        · (intro w hSw; (try dsimp only at hSw); go_simp; (try with_reducible rfl))
        try simp only [Act.put, List.setIfInBounds_toArray, List.set_cons_zero, List.set_cons_succ, List.getElem_toArray, List.getElem_cons_zero, List.getElem_cons_succ]
        refine wpAnyL_ready (rs := [7]) (by kernel_rfl) (by simp) ?_
        refine (AllReadyL.cons rfl (fun K hK => ?_) AllReadyL.nil)
        go_simp
        refine hK.out _ _ (by exact ⟨((Fr.refl [] WZ).drew.alloc _).cell z9 (by simp), ((Fr.refl [] WZ).drew.alloc _).cell zq (by simp)⟩) (fun hHd1 => ?_)
        clear hK K hHd0
        try simp only [Act.put, List.setIfInBounds_toArray, List.set_cons_zero, List.set_cons_succ, List.getElem_toArray, List.getElem_cons_zero, List.getElem_cons_succ]
        refine wpAnyL_ready (rs := [8]) (by kernel_rfl) (by simp) ?_
        refine (AllReadyL.consLate rfl (by kernel_rfl) (fun K hK => ?_) AllReadyL.nil)
        go_simp
        refine (HPUT9.out _ _ rfl rfl).mono ?_
        rintro e w9' ⟨rfl, cs9, h9, s9⟩
        go_simp
        refine hK.out _ _ ?_
        clear hK K hHd1
        try simp only [Act.put, List.setIfInBounds_toArray, List.set_cons_zero, List.set_cons_succ, List.getElem_toArray, List.getElem_cons_zero, List.getElem_cons_succ]
        refine wpAnyL_done (by kernel_rfl) ?_ _
        refine NoOut.normal ?_
        have HST' : Hid (WkS P w (R .busy none) k (id : Int) (putS s1 j (zs m)) bs8 cs9 w9') := Lib.hid (HSY.out.turn (fr_both HS8'.out.1 s9.1) (by obtain ⟨e1, e2, e3, e4, -⟩ := HE5.out; rw [e1, e2, e3, e4]; exact Pair.doc HR8'.out HAP8.out h9 s9))
        obtain ⟨WT, hWT⟩ : ∃ WT : World, WT = w9' := ⟨_, rfl⟩
        subst hWT
        clear h9 s9 HPUT9 hmk ej hj e1 z9 zq
        obtain ⟨hpr, v7, v9, vk, vl, va0, va1, va2, va3, fk, fl, -⟩ := VW.out _ _ _ _ _ _ _ HST'.out
        have hlx : X9 + 1 < WT.heap.size := (Array.getElem?_eq_some_iff.1 (show WT.heap[X9 + 1]? = _ by have := HST'.out.xk; rwa [HE4.out.2.2.2.2.2.2.1] at this)).1
        clear hpr
        by_cases hks : (k : Int) = ws
        · have hks' : ((k : Int) == ws) = true := by rw [beq_iff_eq]; exact hks
          gi_wp2_with fail
          rw [← HRR.out]
          have hlp := HST'.out.lp
          have hpl := HST'.out.putL (o' := R .done (some (.exit 0))) (by rw [HRR.out]; exact offO_lp ..)
          rw [HE4.out.1] at hlp hpl
          exact ⟨hlp, .inr ⟨rfl, .exit 0, k, ⟨_, _, _, _, hpl⟩, hks, rfl⟩⟩
        · have hks' : ((k : Int) == ws) = false := by rw [beq_eq_false_iff_ne]; exact hks
          gi_wp2_with fail
          rw [← HRR.out]
          have hsk := HST'.out.setK (k + 1)
          rw [HE4.out.2.2.2.2.2.2.1] at hsk
          have hlp := hsk.lp
          have hpl := hsk.putL (o' := R .ready none) (by rw [HRR.out]; exact offO_lp ..)
          rw [HE4.out.1] at hlp hpl
          rw [show ((k : Int) + 1) = ((k + 1 : Nat) : Int) by omega]
          refine ⟨hlp, .inl ⟨rfl, putS s1 j (zs m), k + 1, id + 1, ⟨bs8, cs9, ?_⟩, by omega, by omega, by omega, fun i h1 h2 => absurd h1 (by omega)⟩⟩
          rw [show (((id + 1 : Nat) : Int) - 1) = (id : Int) by omega]
          exact hpl
      · have hka' : ((k : Int) == wa) = false := by rw [beq_eq_false_iff_ne]; exact hka
        obtain ⟨WT, hWT⟩ : ∃ WT : World, WT = WX := ⟨_, rfl⟩
        subst hWT
        clear v7 v9 vk vl va0 va1 va2 va3 fk fl
        obtain ⟨hpr, v7, v9, vk, vl, va0, va1, va2, va3, fk, fl, -⟩ := VW.out _ _ _ _ _ _ _ HSX.out
        have hlx : X9 + 1 < WT.heap.size := (Array.getElem?_eq_some_iff.1 (show WT.heap[X9 + 1]? = _ by have := HSX.out.xk; rwa [HE4.out.2.2.2.2.2.2.1] at this)).1
        clear hpr
        by_cases hks : (k : Int) = ws
        · have hks' : ((k : Int) == ws) = true := by rw [beq_iff_eq]; exact hks
          gi_wp2_with fail
          rw [← HRR.out]
          have hlp := HSX.out.lp
          have hpl := HSX.out.putL (o' := R .done (some (.exit 0))) (by rw [HRR.out]; exact offO_lp ..)
          rw [HE4.out.1] at hlp hpl
          exact ⟨hlp, .inr ⟨rfl, .exit 0, k, ⟨_, _, _, _, hpl⟩, hks, rfl⟩⟩
        · have hks' : ((k : Int) == ws) = false := by rw [beq_eq_false_iff_ne]; exact hks
          gi_wp2_with fail
          rw [← HRR.out]
          have hsk := HSX.out.setK (k + 1)
          rw [HE4.out.2.2.2.2.2.2.1] at hsk
          have hlp := hsk.lp
          have hpl := hsk.putL (o' := R .ready none) (by rw [HRR.out]; exact offO_lp ..)
          rw [HE4.out.1] at hlp hpl
          rw [show ((k : Int) + 1) = ((k + 1 : Nat) : Int) by omega]
          refine ⟨hlp, .inl ⟨rfl, s, k + 1, id + 1, ⟨bs, cs, ?_⟩, by omega, by omega, by omega, fun i h1 h2 => absurd h1 (by omega)⟩⟩
          rw [show (((id + 1 : Nat) : Int) - 1) = (id : Int) by omega]
          exact hpl
    · rintro e W2 ⟨⟨vv, rfl⟩, (⟨id, s, A, ⟨k, la, bs, cs, hst, hk, hla, hla6, hz⟩, hid, hfA⟩ | ⟨c', k, la, s, bs, cs, hst, hks, rfl⟩)⟩
      · refine ⟨⟨_, rfl⟩, .inl ?_⟩
        have h2 := hst.keep hfA
        have hl2 := h2.lp
        rw [HE4.out.1, hR] at hl2
        refine ⟨hl2, ?_⟩
        generalize hWb : World.putObj W2 (D + 1) _ = Wb
        have HSB : Hid (WkS P w (R .exhausted none) k ((la : Int) - 1) s bs cs Wb) := Lib.hid (by
          have h := h2.putL (o' := R .exhausted none) (by rw [HRR.out]; exact offO_lp ..)
          rw [HE4.out.1] at h
          rw [← hWb]
          rw [HRR.out] at h ⊢
          exact h)
        clear hWb hl2 h2 hfA hlr hlr2 hD hf1 hsz1 hf81
        obtain ⟨hpr, v7, v9, vk, vl, va0, va1, va2, va3, fk, fl, hrz⟩ := VW.out _ _ _ _ _ _ _ HSB.out
        have HNX := Lib.hid (next9_none _ cs Wb q s ((la : Int) - 1) la hpr.m rfl (fun i h1 => by
          by_cases h3 : i < id
          · exact hz i h1 h3
          · rw [List.getD_eq_getElem?_getD, List.getElem?_eq_none (by omega)]; rfl) hla6)
        obtain ⟨DD, hDD⟩ : ∃ DD, DD = fileB s.kd s.vr s.sz s.R := ⟨_, rfl⟩
        have HBY : Hid (∀ W, Fr [] Wb W → Calls Tryd.prog 20 #[.pointer (some ⟨p, 0, none⟩)] W fun e w' => ∃ v, e = .returned v ∧ Fresh W.heap.size W w' v DD) := Lib.hid fun W hW => by rw [hDD]; exact Bytes_F w4.heap.size bs W p s (hpr.f.keep hW) (nib_keep HN.out (HSB.out.fr.trans hW))
        have HBY9 : Hid (∀ W, Fr [] Wb W → Calls Tryd.prog 26 #[.pointer (some ⟨q, 0, none⟩)] W fun e w' => ∃ v, e = .returned v ∧ Fresh W.heap.size W w' v DD) := Lib.hid fun W hW => by rw [hDD]; exact Bytes9 w6.heap.size cs W q s (hpr.m.keep hW)
        clear hDD
        clear hpr hz hid hst hla hk hR
        by_cases h1 : ws < 0
        · have d1 : decide (ws < 0) = true := decide_eq_true h1
          go_wp2_with fail
          refine HNX.out.mono ?_
          rintro e w' ⟨rfl, rfl⟩
          go_upto_region 26 with fail
          refine wp_region_noPanic ?_
          refine region_late (fun w' => w'.cell? ⟨X7, 0, none⟩ = some (.pointer (some ⟨p, 0, none⟩)) ∧ w'.cell? ⟨X9, 0, none⟩ = some (.pointer (some ⟨q, 0, none⟩))) [5] (by kernel_rfl) (by exact ⟨v7, v9⟩) (fun hHd0 => ?_)
          refine wpAnyL_take (i := 0) (v := ?_) rfl (by kernel_rfl) (by kernel_rfl) (by kernel_rfl) (by kernel_rfl) (by kernel_rfl) (fun _ _ _ h => h) (Or.inl ⟨by rfl, ?_⟩) hHd0 ?_
          rotate_left
          · (intro w hSw; (try dsimp only at hSw); go_simp; (try with_reducible rfl))
          try simp only [Act.put, List.setIfInBounds_toArray, List.set_cons_zero, List.set_cons_succ, List.getElem_toArray, List.getElem_cons_zero, List.getElem_cons_succ]
          refine wpAnyL_take (i := 2) (v := ?_) rfl (by kernel_rfl) (by kernel_rfl) (by kernel_rfl) (by kernel_rfl) (by kernel_rfl) (fun _ _ _ h => h) (Or.inl ⟨by rfl, ?_⟩) hHd0 ?_
          rotate_left
          · (intro w hSw; (try dsimp only at hSw); go_simp; (try with_reducible rfl))
          try simp only [Act.put, List.setIfInBounds_toArray, List.set_cons_zero, List.set_cons_succ, List.getElem_toArray, List.getElem_cons_zero, List.getElem_cons_succ]
          refine wpAnyL_ready (rs := [1]) (by kernel_rfl) (by simp) ?_
          refine (AllReadyL.cons rfl (fun K hK => ?_) AllReadyL.nil)
          go_simp
          refine (HBY.out Wb.drew ((Fr.refl [] Wb).drew)).mono ?_
          rintro e wA ⟨vA, rfl, hvA⟩
          obtain ⟨gA, cA, rfl, -, -, hbA, hfA0⟩ := hvA.bytes
          have hfA : Fr [] Wb wA := ((Fr.refl [] Wb).drew).trans hfA0
          clear hvA hfA0
          go_simp
          refine hK.out _ _ (by exact ⟨hfA.cell v7 (by simp), hfA.cell v9 (by simp)⟩) (fun hHd1 => ?_)
          clear hK K hHd0
          try simp only [Act.put, List.setIfInBounds_toArray, List.set_cons_zero, List.set_cons_succ, List.getElem_toArray, List.getElem_cons_zero, List.getElem_cons_succ]
          refine wpAnyL_ready (rs := [3]) (by kernel_rfl) (by simp) ?_
          refine (AllReadyL.cons rfl (fun K hK => ?_) AllReadyL.nil)
          go_simp
          refine (HBY9.out wA hfA).mono ?_
          rintro e wB ⟨vB, rfl, hvB⟩
          obtain ⟨gB, cB, rfl, -, -, hbB, hfB0⟩ := hvB.bytes
          have hfB : Fr [] Wb wB := hfA.trans hfB0
          have hsm := same_any (some ⟨gA, 0, none⟩) (some ⟨gB, 0, none⟩) cA cB DD DD wB (fun h => by cases h) (fun h => by cases h) (hbA.keep hfB0) hbB
          rw [beq_self_eq_true] at hsm
          clear hvB
          go_simp
          refine hK.out _ _ (by exact ⟨hfB.cell v7 (by simp), hfB.cell v9 (by simp)⟩) (fun hHd2 => ?_)
          clear hK K hHd1
          try simp only [Act.put, List.setIfInBounds_toArray, List.set_cons_zero, List.set_cons_succ, List.getElem_toArray, List.getElem_cons_zero, List.getElem_cons_succ]
          refine wpAnyL_ready (rs := [4]) (by kernel_rfl) (by simp) ?_
          refine (AllReadyL.cons rfl (fun K hK => ?_) AllReadyL.nil)
          go_simp
          refine hsm.mono ?_
          rintro e w' ⟨rfl, rfl⟩
          have hrzB := hfB.obj hrz (by simp)
          have qz := cell_of_row _ _ 0 _ _ _ hrzB
          have qf := frozen_of_row _ _ 0 _ _ hrzB
          simp at qz
          have qs := (Array.getElem?_eq_some_iff.1 hrzB).1
          go_simp
          refine hK.out _ _ (by exact ⟨hfB.cell v7 (by simp), hfB.cell v9 (by simp)⟩) (fun hHd3 => ?_)
          clear hK K hHd2
          try simp only [Act.put, List.setIfInBounds_toArray, List.set_cons_zero, List.set_cons_succ, List.getElem_toArray, List.getElem_cons_zero, List.getElem_cons_succ]
          refine wpAnyL_ready (rs := [5]) (by kernel_rfl) (by simp) ?_
          refine (AllReadyL.consLate rfl (by kernel_rfl) (fun K hK => ?_) AllReadyL.nil)
          go_simp
          refine hK.out _ _ ?_
          clear hK K hHd3
          try simp only [Act.put, List.setIfInBounds_toArray, List.set_cons_zero, List.set_cons_succ, List.getElem_toArray, List.getElem_cons_zero, List.getElem_cons_succ]
          refine wpAnyL_done (by kernel_rfl) ?_ _
          refine NoPanic.normal ?_
          clear hsm hbA hbB hfA v7 v9 vk vl va0 va1 va2 va3 fk fl HBY HBY9
          go_wp2_with fail
          have hsb := HSB.out.keep hfB
          have hne : w.heap.size + 1 ≠ D := by have h := (WkS.nd' HSB.out.nd).2.2.2; rw [HE4.out.2.2.1, HE4.out.2.1] at h; exact h
          have hdf := hsb.df
          rw [HE4.out.2.1] at hdf
          have hfz : Fr [w.heap.size + 1] wB (wB.setCell ⟨w.heap.size + 1, 0, none⟩ (.bool true)) := (Fr.refl _ _).setCell (by simp) _
          have hz9 : (wB.setCell ⟨w.heap.size + 1, 0, none⟩ (.bool true)).heap[w.heap.size + 1]? = some (.cells #[.bool true] 4) := by rw [heap_setCell_same _ _ 0 _ _ _ hrzB]; rfl
          have hDw : w.heap.size ≤ D := by have := HSB.out.new P.D (by simp [WkP.fix]); rw [HE4.out.2.1] at this; exact this
          refine mark_ret (hfz.obj hdf (by simpa using hne.symm)) (results_c1 rfl _ _ ⟨w.heap.size + 1, 0, none⟩ _ rfl (load_b (by rw [World.putObj_heap_other hne]; exact hz9))) ?_
          exact ⟨rfl, (hsb.fr.setCell (by simp) _).putObj (by omega) _⟩
        · have d1 : decide (ws < 0) = false := decide_eq_false h1
          by_cases h2 : (k : Int) < ws
          · have d2 : decide ((k : Int) < ws) = true := decide_eq_true h2
            go_wp2_with fail
            refine HNX.out.mono ?_
            rintro e w' ⟨rfl, rfl⟩
            go_upto_region 26 with fail
            refine wp_region_noPanic ?_
            refine region_late (fun w' => w'.cell? ⟨X7, 0, none⟩ = some (.pointer (some ⟨p, 0, none⟩)) ∧ w'.cell? ⟨X9, 0, none⟩ = some (.pointer (some ⟨q, 0, none⟩))) [5] (by kernel_rfl) (by exact ⟨v7, v9⟩) (fun hHd0 => ?_)
            refine wpAnyL_take (i := 0) (v := ?_) rfl (by kernel_rfl) (by kernel_rfl) (by kernel_rfl) (by kernel_rfl) (by kernel_rfl) (fun _ _ _ h => h) (Or.inl ⟨by rfl, ?_⟩) hHd0 ?_
            rotate_left
            · (intro w hSw; (try dsimp only at hSw); go_simp; (try with_reducible rfl))
            try simp only [Act.put, List.setIfInBounds_toArray, List.set_cons_zero, List.set_cons_succ, List.getElem_toArray, List.getElem_cons_zero, List.getElem_cons_succ]
            refine wpAnyL_take (i := 2) (v := ?_) rfl (by kernel_rfl) (by kernel_rfl) (by kernel_rfl) (by kernel_rfl) (by kernel_rfl) (fun _ _ _ h => h) (Or.inl ⟨by rfl, ?_⟩) hHd0 ?_
            rotate_left
            · (intro w hSw; (try dsimp only at hSw); go_simp; (try with_reducible rfl))
            try simp only [Act.put, List.setIfInBounds_toArray, List.set_cons_zero, List.set_cons_succ, List.getElem_toArray, List.getElem_cons_zero, List.getElem_cons_succ]
            refine wpAnyL_ready (rs := [1]) (by kernel_rfl) (by simp) ?_
            refine (AllReadyL.cons rfl (fun K hK => ?_) AllReadyL.nil)
            go_simp
            refine (HBY.out Wb.drew ((Fr.refl [] Wb).drew)).mono ?_
            rintro e wA ⟨vA, rfl, hvA⟩
            obtain ⟨gA, cA, rfl, -, -, hbA, hfA0⟩ := hvA.bytes
            have hfA : Fr [] Wb wA := ((Fr.refl [] Wb).drew).trans hfA0
            clear hvA hfA0
            go_simp
            refine hK.out _ _ (by exact ⟨hfA.cell v7 (by simp), hfA.cell v9 (by simp)⟩) (fun hHd1 => ?_)
            clear hK K hHd0
            try simp only [Act.put, List.setIfInBounds_toArray, List.set_cons_zero, List.set_cons_succ, List.getElem_toArray, List.getElem_cons_zero, List.getElem_cons_succ]
            refine wpAnyL_ready (rs := [3]) (by kernel_rfl) (by simp) ?_
            refine (AllReadyL.cons rfl (fun K hK => ?_) AllReadyL.nil)
            go_simp
            refine (HBY9.out wA hfA).mono ?_
            rintro e wB ⟨vB, rfl, hvB⟩
            obtain ⟨gB, cB, rfl, -, -, hbB, hfB0⟩ := hvB.bytes
            have hfB : Fr [] Wb wB := hfA.trans hfB0
            have hsm := same_any (some ⟨gA, 0, none⟩) (some ⟨gB, 0, none⟩) cA cB DD DD wB (fun h => by cases h) (fun h => by cases h) (hbA.keep hfB0) hbB
            rw [beq_self_eq_true] at hsm
            clear hvB
            go_simp
            refine hK.out _ _ (by exact ⟨hfB.cell v7 (by simp), hfB.cell v9 (by simp)⟩) (fun hHd2 => ?_)
            clear hK K hHd1
            try simp only [Act.put, List.setIfInBounds_toArray, List.set_cons_zero, List.set_cons_succ, List.getElem_toArray, List.getElem_cons_zero, List.getElem_cons_succ]
            refine wpAnyL_ready (rs := [4]) (by kernel_rfl) (by simp) ?_
            refine (AllReadyL.cons rfl (fun K hK => ?_) AllReadyL.nil)
            go_simp
            refine hsm.mono ?_
            rintro e w' ⟨rfl, rfl⟩
            have hrzB := hfB.obj hrz (by simp)
            have qz := cell_of_row _ _ 0 _ _ _ hrzB
            have qf := frozen_of_row _ _ 0 _ _ hrzB
            simp at qz
            have qs := (Array.getElem?_eq_some_iff.1 hrzB).1
            go_simp
            refine hK.out _ _ (by exact ⟨hfB.cell v7 (by simp), hfB.cell v9 (by simp)⟩) (fun hHd3 => ?_)
            clear hK K hHd2
            try simp only [Act.put, List.setIfInBounds_toArray, List.set_cons_zero, List.set_cons_succ, List.getElem_toArray, List.getElem_cons_zero, List.getElem_cons_succ]
            refine wpAnyL_ready (rs := [5]) (by kernel_rfl) (by simp) ?_
            refine (AllReadyL.consLate rfl (by kernel_rfl) (fun K hK => ?_) AllReadyL.nil)
            go_simp
            refine hK.out _ _ ?_
            clear hK K hHd3
            try simp only [Act.put, List.setIfInBounds_toArray, List.set_cons_zero, List.set_cons_succ, List.getElem_toArray, List.getElem_cons_zero, List.getElem_cons_succ]
            refine wpAnyL_done (by kernel_rfl) ?_ _
            refine NoPanic.normal ?_
            clear hsm hbA hbB hfA v7 v9 vk vl va0 va1 va2 va3 fk fl HBY HBY9
            go_wp2_with fail
            have hsb := HSB.out.keep hfB
            have hne : w.heap.size + 1 ≠ D := by have h := (WkS.nd' HSB.out.nd).2.2.2; rw [HE4.out.2.2.1, HE4.out.2.1] at h; exact h
            have hdf := hsb.df
            rw [HE4.out.2.1] at hdf
            have hfz : Fr [w.heap.size + 1] wB (wB.setCell ⟨w.heap.size + 1, 0, none⟩ (.bool true)) := (Fr.refl _ _).setCell (by simp) _
            have hz9 : (wB.setCell ⟨w.heap.size + 1, 0, none⟩ (.bool true)).heap[w.heap.size + 1]? = some (.cells #[.bool true] 4) := by rw [heap_setCell_same _ _ 0 _ _ _ hrzB]; rfl
            have hDw : w.heap.size ≤ D := by have := HSB.out.new P.D (by simp [WkP.fix]); rw [HE4.out.2.1] at this; exact this
            refine mark_ret (hfz.obj hdf (by simpa using hne.symm)) (results_c1 rfl _ _ ⟨w.heap.size + 1, 0, none⟩ _ rfl (load_b (by rw [World.putObj_heap_other hne]; exact hz9))) ?_
            exact ⟨rfl, (hsb.fr.setCell (by simp) _).putObj (by omega) _⟩
          · have d2 : decide ((k : Int) < ws) = false := decide_eq_false h2
            go_upto_region 26 with fail
            refine wp_region_noPanic ?_
            refine region_late (fun w' => w'.cell? ⟨X7, 0, none⟩ = some (.pointer (some ⟨p, 0, none⟩)) ∧ w'.cell? ⟨X9, 0, none⟩ = some (.pointer (some ⟨q, 0, none⟩))) [5] (by kernel_rfl) (by exact ⟨v7, v9⟩) (fun hHd0 => ?_)
            refine wpAnyL_take (i := 0) (v := ?_) rfl (by kernel_rfl) (by kernel_rfl) (by kernel_rfl) (by kernel_rfl) (by kernel_rfl) (fun _ _ _ h => h) (Or.inl ⟨by rfl, ?_⟩) hHd0 ?_
            rotate_left
            · (intro w hSw; (try dsimp only at hSw); go_simp; (try with_reducible rfl))
            try simp only [Act.put, List.setIfInBounds_toArray, List.set_cons_zero, List.set_cons_succ, List.getElem_toArray, List.getElem_cons_zero, List.getElem_cons_succ]
            refine wpAnyL_take (i := 2) (v := ?_) rfl (by kernel_rfl) (by kernel_rfl) (by kernel_rfl) (by kernel_rfl) (by kernel_rfl) (fun _ _ _ h => h) (Or.inl ⟨by rfl, ?_⟩) hHd0 ?_
            rotate_left
            · (intro w hSw; (try dsimp only at hSw); go_simp; (try with_reducible rfl))
            try simp only [Act.put, List.setIfInBounds_toArray, List.set_cons_zero, List.set_cons_succ, List.getElem_toArray, List.getElem_cons_zero, List.getElem_cons_succ]
            refine wpAnyL_ready (rs := [1]) (by kernel_rfl) (by simp) ?_
            refine (AllReadyL.cons rfl (fun K hK => ?_) AllReadyL.nil)
            go_simp
            refine (HBY.out Wb.drew ((Fr.refl [] Wb).drew)).mono ?_
            rintro e wA ⟨vA, rfl, hvA⟩
            obtain ⟨gA, cA, rfl, -, -, hbA, hfA0⟩ := hvA.bytes
            have hfA : Fr [] Wb wA := ((Fr.refl [] Wb).drew).trans hfA0
            clear hvA hfA0
            go_simp
            refine hK.out _ _ (by exact ⟨hfA.cell v7 (by simp), hfA.cell v9 (by simp)⟩) (fun hHd1 => ?_)
            clear hK K hHd0
            try simp only [Act.put, List.setIfInBounds_toArray, List.set_cons_zero, List.set_cons_succ, List.getElem_toArray, List.getElem_cons_zero, List.getElem_cons_succ]
            refine wpAnyL_ready (rs := [3]) (by kernel_rfl) (by simp) ?_
            refine (AllReadyL.cons rfl (fun K hK => ?_) AllReadyL.nil)
            go_simp
            refine (HBY9.out wA hfA).mono ?_
            rintro e wB ⟨vB, rfl, hvB⟩
            obtain ⟨gB, cB, rfl, -, -, hbB, hfB0⟩ := hvB.bytes
            have hfB : Fr [] Wb wB := hfA.trans hfB0
            have hsm := same_any (some ⟨gA, 0, none⟩) (some ⟨gB, 0, none⟩) cA cB DD DD wB (fun h => by cases h) (fun h => by cases h) (hbA.keep hfB0) hbB
            rw [beq_self_eq_true] at hsm
            clear hvB
            go_simp
            refine hK.out _ _ (by exact ⟨hfB.cell v7 (by simp), hfB.cell v9 (by simp)⟩) (fun hHd2 => ?_)
            clear hK K hHd1
            try simp only [Act.put, List.setIfInBounds_toArray, List.set_cons_zero, List.set_cons_succ, List.getElem_toArray, List.getElem_cons_zero, List.getElem_cons_succ]
            refine wpAnyL_ready (rs := [4]) (by kernel_rfl) (by simp) ?_
            refine (AllReadyL.cons rfl (fun K hK => ?_) AllReadyL.nil)
            go_simp
            refine hsm.mono ?_
            rintro e w' ⟨rfl, rfl⟩
            have hrzB := hfB.obj hrz (by simp)
            have qz := cell_of_row _ _ 0 _ _ _ hrzB
            have qf := frozen_of_row _ _ 0 _ _ hrzB
            simp at qz
            have qs := (Array.getElem?_eq_some_iff.1 hrzB).1
            go_simp
            refine hK.out _ _ (by exact ⟨hfB.cell v7 (by simp), hfB.cell v9 (by simp)⟩) (fun hHd3 => ?_)
            clear hK K hHd2
            try simp only [Act.put, List.setIfInBounds_toArray, List.set_cons_zero, List.set_cons_succ, List.getElem_toArray, List.getElem_cons_zero, List.getElem_cons_succ]
            refine wpAnyL_ready (rs := [5]) (by kernel_rfl) (by simp) ?_
            refine (AllReadyL.consLate rfl (by kernel_rfl) (fun K hK => ?_) AllReadyL.nil)
            go_simp
            refine hK.out _ _ ?_
            clear hK K hHd3
            try simp only [Act.put, List.setIfInBounds_toArray, List.set_cons_zero, List.set_cons_succ, List.getElem_toArray, List.getElem_cons_zero, List.getElem_cons_succ]
            refine wpAnyL_done (by kernel_rfl) ?_ _
            refine NoPanic.normal ?_
            clear hsm hbA hbB hfA v7 v9 vk vl va0 va1 va2 va3 fk fl HBY HBY9
            go_wp2_with fail
            have hsb := HSB.out.keep hfB
            have hne : w.heap.size + 1 ≠ D := by have h := (WkS.nd' HSB.out.nd).2.2.2; rw [HE4.out.2.2.1, HE4.out.2.1] at h; exact h
            have hdf := hsb.df
            rw [HE4.out.2.1] at hdf
            have hfz : Fr [w.heap.size + 1] wB (wB.setCell ⟨w.heap.size + 1, 0, none⟩ (.bool true)) := (Fr.refl _ _).setCell (by simp) _
            have hz9 : (wB.setCell ⟨w.heap.size + 1, 0, none⟩ (.bool true)).heap[w.heap.size + 1]? = some (.cells #[.bool true] 4) := by rw [heap_setCell_same _ _ 0 _ _ _ hrzB]; rfl
            have hDw : w.heap.size ≤ D := by have := HSB.out.new P.D (by simp [WkP.fix]); rw [HE4.out.2.1] at this; exact this
            refine mark_ret (hfz.obj hdf (by simpa using hne.symm)) (results_c1 rfl _ _ ⟨w.heap.size + 1, 0, none⟩ _ rfl (load_b (by rw [World.putObj_heap_other hne]; exact hz9))) ?_
            exact ⟨rfl, (hsb.fr.setCell (by simp) _).putObj (by omega) _⟩
      · refine ⟨⟨_, rfl⟩, .inr ?_⟩
        have hl2 := hst.lp
        rw [HE4.out.1, hR] at hl2
        refine ⟨.exit 0, hl2, ?_⟩
        generalize hWb : World.putObj W2 (D + 1) _ = Wb
        have HSB : Hid (WkS P w (R .exhausted (some (.exit 0))) k la s bs cs Wb) := Lib.hid (by
          have h := hst.putL (o' := R .exhausted (some (.exit 0))) (by rw [HRR.out]; exact offO_lp ..)
          rw [HE4.out.1] at h
          rw [← hWb]
          rw [HRR.out] at h ⊢
          exact h)
        clear hWb hl2 hlr hlr2 hD hf1 hsz1 hf81 hst
        obtain ⟨hpr, v7, v9, vk, vl, va0, va1, va2, va3, fk, fl, hrz⟩ := VW.out _ _ _ _ _ _ _ HSB.out
        obtain ⟨DD, hDD⟩ : ∃ DD, DD = fileB s.kd s.vr s.sz s.R := ⟨_, rfl⟩
        have HBY : Hid (∀ W, Fr [] Wb W → Calls Tryd.prog 20 #[.pointer (some ⟨p, 0, none⟩)] W fun e w' => ∃ v, e = .returned v ∧ Fresh W.heap.size W w' v DD) := Lib.hid fun W hW => by rw [hDD]; exact Bytes_F w4.heap.size bs W p s (hpr.f.keep hW) (nib_keep HN.out (HSB.out.fr.trans hW))
        have HBY9 : Hid (∀ W, Fr [] Wb W → Calls Tryd.prog 26 #[.pointer (some ⟨q, 0, none⟩)] W fun e w' => ∃ v, e = .returned v ∧ Fresh W.heap.size W w' v DD) := Lib.hid fun W hW => by rw [hDD]; exact Bytes9 w6.heap.size cs W q s (hpr.m.keep hW)
        clear hDD
        have d1 : decide (ws < 0) = false := decide_eq_false (by omega)
        have d2 : decide ((k : Int) < ws) = false := decide_eq_false (by omega)
        clear hpr hR hks
        gi_wp2_with fail
        go_upto_region 26 with fail
        refine wp_region_noPanic ?_
        refine region_late (fun w' => w'.cell? ⟨X7, 0, none⟩ = some (.pointer (some ⟨p, 0, none⟩)) ∧ w'.cell? ⟨X9, 0, none⟩ = some (.pointer (some ⟨q, 0, none⟩))) [5] (by kernel_rfl) (by exact ⟨v7, v9⟩) (fun hHd0 => ?_)
        refine wpAnyL_take (i := 0) (v := ?_) rfl (by kernel_rfl) (by kernel_rfl) (by kernel_rfl) (by kernel_rfl) (by kernel_rfl) (fun _ _ _ h => h) (Or.inl ⟨by rfl, ?_⟩) hHd0 ?_
        rotate_left
        · (intro w hSw; (try dsimp only at hSw); go_simp; (try with_reducible rfl))
        try simp only [Act.put, List.setIfInBounds_toArray, List.set_cons_zero, List.set_cons_succ, List.getElem_toArray, List.getElem_cons_zero, List.getElem_cons_succ]
        refine wpAnyL_take (i := 2) (v := ?_) rfl (by kernel_rfl) (by kernel_rfl) (by kernel_rfl) (by kernel_rfl) (by kernel_rfl) (fun _ _ _ h => h) (Or.inl ⟨by rfl, ?_⟩) hHd0 ?_
        rotate_left
        · (intro w hSw; (try dsimp only at hSw); go_simp; (try with_reducible rfl))
        try simp only [Act.put, List.setIfInBounds_toArray, List.set_cons_zero, List.set_cons_succ, List.getElem_toArray, List.getElem_cons_zero, List.getElem_cons_succ]
        refine wpAnyL_ready (rs := [1]) (by kernel_rfl) (by simp) ?_
        refine (AllReadyL.cons rfl (fun K hK => ?_) AllReadyL.nil)
        go_simp
        refine (HBY.out Wb.drew ((Fr.refl [] Wb).drew)).mono ?_
        rintro e wA ⟨vA, rfl, hvA⟩
        obtain ⟨gA, cA, rfl, -, -, hbA, hfA0⟩ := hvA.bytes
        have hfA : Fr [] Wb wA := ((Fr.refl [] Wb).drew).trans hfA0
        clear hvA hfA0
        go_simp
        refine hK.out _ _ (by exact ⟨hfA.cell v7 (by simp), hfA.cell v9 (by simp)⟩) (fun hHd1 => ?_)
        clear hK K hHd0
        try simp only [Act.put, List.setIfInBounds_toArray, List.set_cons_zero, List.set_cons_succ, List.getElem_toArray, List.getElem_cons_zero, List.getElem_cons_succ]
        refine wpAnyL_ready (rs := [3]) (by kernel_rfl) (by simp) ?_
        refine (AllReadyL.cons rfl (fun K hK => ?_) AllReadyL.nil)
        go_simp
        refine (HBY9.out wA hfA).mono ?_
        rintro e wB ⟨vB, rfl, hvB⟩
        obtain ⟨gB, cB, rfl, -, -, hbB, hfB0⟩ := hvB.bytes
        have hfB : Fr [] Wb wB := hfA.trans hfB0
        have hsm := same_any (some ⟨gA, 0, none⟩) (some ⟨gB, 0, none⟩) cA cB DD DD wB (fun h => by cases h) (fun h => by cases h) (hbA.keep hfB0) hbB
        rw [beq_self_eq_true] at hsm
        clear hvB
        go_simp
        refine hK.out _ _ (by exact ⟨hfB.cell v7 (by simp), hfB.cell v9 (by simp)⟩) (fun hHd2 => ?_)
        clear hK K hHd1
        try simp only [Act.put, List.setIfInBounds_toArray, List.set_cons_zero, List.set_cons_succ, List.getElem_toArray, List.getElem_cons_zero, List.getElem_cons_succ]
        refine wpAnyL_ready (rs := [4]) (by kernel_rfl) (by simp) ?_
        refine (AllReadyL.cons rfl (fun K hK => ?_) AllReadyL.nil)
        go_simp
        refine hsm.mono ?_
        rintro e w' ⟨rfl, rfl⟩
        have hrzB := hfB.obj hrz (by simp)
        have qz := cell_of_row _ _ 0 _ _ _ hrzB
        have qf := frozen_of_row _ _ 0 _ _ hrzB
        simp at qz
        have qs := (Array.getElem?_eq_some_iff.1 hrzB).1
        go_simp
        refine hK.out _ _ (by exact ⟨hfB.cell v7 (by simp), hfB.cell v9 (by simp)⟩) (fun hHd3 => ?_)
        clear hK K hHd2
        try simp only [Act.put, List.setIfInBounds_toArray, List.set_cons_zero, List.set_cons_succ, List.getElem_toArray, List.getElem_cons_zero, List.getElem_cons_succ]
        refine wpAnyL_ready (rs := [5]) (by kernel_rfl) (by simp) ?_
        refine (AllReadyL.consLate rfl (by kernel_rfl) (fun K hK => ?_) AllReadyL.nil)
        go_simp
        refine hK.out _ _ ?_
        clear hK K hHd3
        try simp only [Act.put, List.setIfInBounds_toArray, List.set_cons_zero, List.set_cons_succ, List.getElem_toArray, List.getElem_cons_zero, List.getElem_cons_succ]
        refine wpAnyL_done (by kernel_rfl) ?_ _
        refine NoPanic.normal ?_
        clear hsm hbA hbB hfA v7 v9 vk vl va0 va1 va2 va3 fk fl HBY HBY9
        go_wp2_with fail
        have hsb := HSB.out.keep hfB
        have hne : w.heap.size + 1 ≠ D := by have h := (WkS.nd' HSB.out.nd).2.2.2; rw [HE4.out.2.2.1, HE4.out.2.1] at h; exact h
        have hdf := hsb.df
        rw [HE4.out.2.1] at hdf
        have hfz : Fr [w.heap.size + 1] wB (wB.setCell ⟨w.heap.size + 1, 0, none⟩ (.bool true)) := (Fr.refl _ _).setCell (by simp) _
        have hz9 : (wB.setCell ⟨w.heap.size + 1, 0, none⟩ (.bool true)).heap[w.heap.size + 1]? = some (.cells #[.bool true] 4) := by rw [heap_setCell_same _ _ 0 _ _ _ hrzB]; rfl
        have hDw : w.heap.size ≤ D := by have := HSB.out.new P.D (by simp [WkP.fix]); rw [HE4.out.2.1] at this; exact this
        refine mark_ret (hfz.obj hdf (by simpa using hne.symm)) (results_c1 rfl _ _ ⟨w.heap.size + 1, 0, none⟩ _ rfl (load_b (by rw [World.putObj_heap_other hne]; exact hz9))) ?_
        exact ⟨rfl, (hsb.fr.setCell (by simp) _).putObj (by omega) _⟩
end Go.Proofs.YtibhbfmljibeaaaDoor
