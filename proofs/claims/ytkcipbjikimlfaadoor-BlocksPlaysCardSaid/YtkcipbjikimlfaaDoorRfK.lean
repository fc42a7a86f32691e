/- Record files: a list grows by one record; what a loop's own blocks are apart from. -/
import Derived.Test.YtkcipbjikimlfaaDoorRfI
namespace Go.Proofs.YtkcipbjikimlfaaDoor
open Go.RowKit

theorem own_ty {w : World} {B e size n k T : Nat} {v : Value} {xs : List Value} {cs : Array Value} (h : w.ownsRow B e size v n xs) (hk : w.heap[k]? = some (.cells cs T)) (hT : T ≠ e) : v.ownBlock ≠ some k := by
  rcases h.2 with ⟨rfl, _⟩ | ⟨g, cap, cur, rfl, _, hh, _⟩
  · simp [Value.ownBlock]
  · simp only [Value.ownBlock]
    intro e1
    cases e1
    rw [hk] at hh
    simp at hh
    exact hT hh.2
theorem own_lp {w : World} {B e size n k : Nat} {v : Value} {xs : List Value} {fn : FuncId} {tmps : Array Value} {ps : Array Tmp} {assign body : Code} {D : Nat} {st : LoopState} {pe : Option Code} (h : w.ownsRow B e size v n xs) (hk : w.heap[k]? = some (lpR fn tmps ps assign body D st pe)) : v.ownBlock ≠ some k := by
  rcases h.2 with ⟨rfl, _⟩ | ⟨g, cap, cur, rfl, _, hh, _⟩
  · simp [Value.ownBlock]
  · simp only [Value.ownBlock]
    intro e1
    cases e1
    rw [hk] at hh
    unfold lpR at hh
    cases hh
theorem own_df {w : World} {B e size n k : Nat} {v : Value} {xs : List Value} {d : Option (List Deferred)} (h : w.ownsRow B e size v n xs) (hk : w.heap[k]? = some (.deferred d)) : v.ownBlock ≠ some k := by
  rcases h.2 with ⟨rfl, _⟩ | ⟨g, cap, cur, rfl, _, hh, _⟩
  · simp [Value.ownBlock]
  · simp only [Value.ownBlock]
    intro e1
    cases e1
    rw [hk] at hh
    cases hh
theorem lp_take {W : World} {l : Nat} {fn : FuncId} {T : Array Value} {ps : Array Tmp} {asg bd : Code} {D : Nat} {s : LoopState} {p : Option Code} (h : W.heap[l]? = some (lpR fn T ps asg bd D s p)) : ∃ R : LoopState → Option Code → Obj, R = lpR fn T ps asg bd D ∧ W.heap[l]? = some (R s p) := ⟨_, rfl, h⟩
theorem put_take {W0 Wb : World} {l : Nat} {o : Obj} (h : W0.putObj l o = Wb) (hl : l < W0.heap.size) : Wb.heap[l]? = some o := by rw [← h]; exact World.putObj_heap_same hl
theorem own_two {w : World} {B C e e' s s' n n' : Nat} {v v' : Value} {xs xs' : List Value} (h : w.ownsRow B e s v n xs) (h' : w.ownsRow C e' s' v' n' xs') (hne : e ≠ e') : ∀ g, v.ownBlock = some g → v'.ownBlock ≠ some g := by
  intro g hg
  rcases h.2 with ⟨rfl, _⟩ | ⟨g', cap, cur, rfl, _, hh, _⟩
  · simp [Value.ownBlock] at hg
  · simp only [Value.ownBlock, Option.some.injEq] at hg
    subst hg
    exact own_ty h' hh hne
/-- append onto a list of the call's own, as one step of a region that draws -/
theorem step_appS {P : Program} {ops : Array Oper} {o : Oper} {a : Act} {w : World} {K : Act → World → Prop} {Q : Exit → Act → World → Prop} {E : Prop}
    (hg : o.guard = none) (s x : Operand) (t : TypeId) (hop : o.op = Op.call { callee := Callee.builtin Builtin.append, args := #[s, x], argTypes := #[t, t] })
    (base : Nat) (e : TypeId) (z : Value) (size bytes : Nat) (ht : P.underlying t = some (.slice e)) (hinfo : (P.info? e).map (fun i => (i.zero, i.size, i.bytes)) = some (some z, size, bytes))
    (hzs : z.cells.size = size) (hsz : 0 < size)
    (v : Value) (n : Nat) (xs : List Value) (hs : a.eval s = v) (hown : w.ownsRow base e size v n xs)
    (ao : Option Addr) (m c : Nat) (news : List Value) (hx : a.eval x = .slice ao m c) (hl : news.length = m * size) (hnews : ∀ a, ao = some a → ∀ j u, news[j]? = some u → w.cell? (a.add j) = some u) (hnone : ao = none → m = 0 ∧ c = 0) (h1 : ∀ u ∈ news, u.oneCell' = true)
    (h63 : n + m ≤ maxLen) (hbytes : (n + m) * bytes ≤ 140737488355328) (hbase : base ≤ w.heap.size)
    (hK : ∀ v' w', App w w' base e size v v' n m xs news → K (a.put o.dst v') w') :
    if Region.wanted o (yielded ops a.tmps) = true then Oper.wp P o a w K Q else E := by
  have hw : Region.wanted o (yielded ops a.tmps) = true := by simp [Region.wanted, hg]
  rw [if_pos hw]
  obtain ⟨i, hi, hz, hsz2, hby⟩ := info_parts hinfo
  obtain ⟨v', w', hr, happ⟩ := run_appS (P := P) w base t o.type e i z size bytes ht hi hz hsz2 hby hzs hsz v n xs hown ao m c news hl hnews hnone h1 h63 hbytes hbase
  unfold Oper.wp
  simp [execOp, hop, resolve, invoke, builtin, hs, hx, hr, Result.andThen]
  exact hK v' w' happ
theorem bx_news {w : World} {b : Nat} {x : Value} {T : Nat} (h : w.heap[b]? = some (.cells #[x] T)) : ∀ a, some (⟨b, 0, none⟩ : Addr) = some a → ∀ (j : Nat) (u : Value), [x][j]? = some u → w.cell? (a.add j) = some u := by
  intro a ha j u hj
  cases ha
  cases j with
  | succ j => simp at hj
  | zero =>
    have h1 := cell_of_row w b 0 _ _ _ h
    simp at h1 hj
    subst hj
    simpa [Addr.add] using h1
theorem frozen_frK {S : List Nat} {w w' : World} (h : Fr S w w') {a : Addr} (hb : a.block < w.heap.size) (hn : a.block ∉ S) : w'.frozen? a = w.frozen? a := by
  unfold World.frozen?
  rw [h.block _ hb hn]
/-- what a region of Open needs -/
def KP (X4 F : Nat) (w' : World) : Prop := w'.cell? ⟨X4, 0, none⟩ = some (.pointer (some ⟨F, 0, none⟩)) ∧ (w'.cell? ⟨F, 3, none⟩).isSome = true ∧ w'.frozen? ⟨F, 3, none⟩ = false ∧ F < w'.heap.size
theorem KP.of {X4 F : Nat} {w : World} {x0 x1 x2 x3 x4 x5 : Value} (h : w.heap[F]? = some (.cells #[x0, x1, x2, x3, x4, x5] 81)) (hX : w.heap[X4]? = some (.cells #[.pointer (some ⟨F, 0, none⟩)] 24)) : KP X4 F w := by
  refine ⟨cell_of_row _ _ 0 _ _ _ hX, ?_, frozen_of_row _ _ 3 _ _ h, (Array.getElem?_eq_some_iff.1 h).1⟩
  rw [cell_of_row _ _ 3 _ _ _ h]
  rfl
theorem KP.fr {X4 F : Nat} {w w' : World} (h : KP X4 F w) (hf : Fr [] w w') : KP X4 F w' := by
  obtain ⟨u, hu⟩ := Option.isSome_iff_exists.1 h.2.1
  refine ⟨hf.cell h.1 (by simp), by rw [hf.cell hu (by simp)]; rfl, ?_, Nat.lt_of_lt_of_le h.2.2.2 hf.size⟩
  rw [frozen_frK hf h.2.2.2 (by simp)]
  exact h.2.2.1
theorem KP.alloc {X4 F : Nat} {w : World} (h : KP X4 F w) (o : Obj) : KP X4 F (w.alloc o) := h.fr ((Fr.refl [] w).alloc o)
theorem KP.drew {X4 F : Nat} {w : World} (h : KP X4 F w) : KP X4 F w.drew := h.fr ((Fr.refl [] w).drew)
theorem KP.set {X4 F : Nat} {w : World} (h : KP X4 F w) (hne : X4 ≠ F) (v : Value) : KP X4 F (w.setCell ⟨F, 3, none⟩ v) := by
  obtain ⟨u, hu⟩ := Option.isSome_iff_exists.1 h.2.1
  exact ⟨((Fr.refl [F] w).setCell (by simp) v).cell h.1 (by simpa using hne), by rw [World.cell?_setCell_same w _ v hu]; rfl, by simpa using h.2.2.1, by simpa using h.2.2.2⟩
/-- a list grows by one record -/
theorem rf_app {wA wB : World} {B F kd vr S : Nat} {v v' : Value} {X : List LI} {T : Recs} {y : LI} (h : RFH wA B F v X ⟨kd, vr, S, 0, T⟩) (hy : wA.ownsRow B 5 1 y.v y.d.length (y.d.map B8)) (ha : App wA wB B 22 1 v v' X.length 1 (X.map LI.v) [y.v]) :
    wB.heap[F]? = some (.cells #[.int .i64 kd, .int .i64 vr, .int .i64 S, v, .int .i64 (liveN T), .int .i64 0] 81) ∧
    (wB.setCell ⟨F, 3, none⟩ v').heap[F]? = some (.cells #[.int .i64 kd, .int .i64 vr, .int .i64 S, v', .int .i64 (liveN T), .int .i64 0] 81) ∧ LL (wB.setCell ⟨F, 3, none⟩ v') B v' (X ++ [y]) ∧ Fr (F :: v.ownBlock.toList) wA (wB.setCell ⟨F, 3, none⟩ v') ∧ (v'.ownBlock = v.ownBlock ∨ ∃ g, v'.ownBlock = some g ∧ wA.heap.size ≤ g) := by
  have hfb := app_frZ ha
  have hob := hfb.obj h.obj (by simpa using h.ne)
  have hll := h.recs.app hy ha hfb (own_two hy h.recs.row (by decide))
  refine ⟨hob, by rw [heap_setCell_same wB F 3 _ _ _ hob]; rfl, hll.fr ((Fr.refl [F] wB).setCell (by simp) _) ?_, Fr.setCell (p := ⟨F, 3, none⟩) (hfb.mono (fun i hi _ => List.mem_cons_of_mem _ hi)) (fun _ => List.mem_cons_self) _, ha.blk⟩
  intro i hi hm
  obtain rfl : i = F := by simpa using hm
  rcases llB_cases hi with hi | ⟨x, hx, hi⟩
  · exact own_ty hll.row hob (by decide) hi
  · exact own_ty (hll.dat x hx) hob (by decide) hi
theorem rf_snoc {wA w6 : World} {B F kd vr S : Nat} {v v' : Value} {X : List LI} {T : Recs} {y : LI} (h : RFH wA B F v X ⟨kd, vr, S, 0, T⟩) (ho : w6.heap[F]? = some (.cells #[.int .i64 kd, .int .i64 vr, .int .i64 S, v', .int .i64 ((liveN (T ++ [y.o]) : Nat) : Int), .int .i64 0] 81)) (hl : LL w6 B v' (X ++ [y])) (hT : T.length < 65536) (hd : ∀ d, y.o = some d → d.length + 1 = S) :
    RFH w6 B F v' (X ++ [y]) ⟨kd, vr, S, 0, T ++ [y.o]⟩ := by
  refine ⟨ho, hl, by rw [List.map_append, h.opt]; rfl, ⟨h.ok.kd, h.ok.vr, h.ok.lo, h.ok.hi, by simp; omega, ?_, fun i hi => absurd hi (by simp)⟩, h.base⟩
  intro d hm
  rcases List.mem_append.1 hm with hm | hm
  · exact h.ok.dat d hm
  · exact hd d (List.mem_singleton.1 hm).symm
theorem liveN_snoc (T : Recs) (o : Option (List UInt8)) : liveN (T ++ [o]) = liveN T + (if o.isSome = true then 1 else 0) := by
  rw [liveN_append]
  congr 1
  cases o <;> rfl
/-- F's blocks and a loop's own -/
theorem rf_apart {A : World} {B F kd vr S l D : Nat} {v : Value} {X : List LI} {T : Recs} {R : LoopState → Option Code → Obj} {fn : FuncId} {tmps : Array Value} {ps : Array Tmp} {assign body : Code} {st : LoopState} {pe : Option Code} (h : RFH A B F v X ⟨kd, vr, S, 0, T⟩) (hR : R = lpR fn tmps ps assign body D) (hl : A.heap[l]? = some (R st pe)) : ∀ i ∈ rfB F v X, i ≠ l := by
  subst hR
  rintro i hi rfl
  rcases List.mem_cons.1 hi with rfl | hi
  · rw [h.obj] at hl
    unfold lpR at hl
    cases hl
  rcases llB_cases hi with hi | ⟨x, hx, hi⟩
  · exact own_lp h.recs.row hl hi
  · exact own_lp (h.recs.dat x hx) hl hi
end Go.Proofs.YtkcipbjikimlfaaDoor
