/- Blocks: Check. -/
import Derived.Test.YtkcipbjikimlfaaDoorBkI
import Derived.Test.YtkcipbjikimlfaaDoorRfJ
import Derived.Test.YtkcipbjikimlfaaDoorLate
import Derived.Sort.CutIn
import Derived.Lib.SlBytesConst
namespace Go.Proofs.YtkcipbjikimlfaaDoor
open Go.RowKit Go.Shelf Go.Maps
attribute [local go_sem] Oper.semAt_some
theorem results_e1 {P : Program} {fn : Func} {p : Tmp} {ty : TypeId} (h : fn.results = #[.cell p ty]) (tmps : Array Value) (w : World) (a : Addr) (x : Value)
    (hp : tmps.getD p undef = .pointer (some a)) (h1 : (loadVar ty a).run P w = .ok x w) : (results fn tmps).run P w = .ok x w := by
  have key : (results fn tmps).run P w = ((asAddr (tmps.getD p undef)).run P w).andThen fun a w₁ => (loadVar ty a).run P w₁ := by
    simp only [results, h]
    simp [Sem.run_bind, Result.andThen]
  rw [key, hp]
  simp [asAddr, h1]
theorem load_e {w : World} {b : Nat} {v : Value} {T : Nat} (h : w.heap[b]? = some (.cells #[v] T)) : (loadVar 28 ⟨b, 0, none⟩).run Tryd.prog w = .ok v w := by
  have hc := cell_of_row w b 0 _ _ _ h
  simp at hc
  simp [loadVar, go_sem, hc]
/-- the same blocks under another loop -/
theorem ChS.again {P : ChP} {w : World} {B : Nat} {bs : List Nat} {p n : Nat} {s : RFS} {o o' : Obj} {e : Int} {f3 f5 : Nat → Int} {v4 : Value} {L : List Nat} {A : World} (h : ChS P w B bs p n s o e f3 f5 v4 L A) {l D Bn N : Nat} (h0 : ∀ i ∈ P.fix, i < N) (hv : ∀ i, v4.ownBlock = some i → i < N) (hN : w.heap.size ≤ N) (hb : N ≤ Bn) (hd : Bn < D) (hll : D < l)
    (lp : A.heap[l]? = some o') (df : A.heap[D]? = some (.deferred (some []))) (bn : A.heap[Bn]? = some (.cells #[.pointer (some ⟨p, 0, none⟩)] 24)) : ChS ⟨l, D, P.RZ, P.X1, P.X3, P.X4, P.X5, Bn, P.g3, P.g5⟩ w B bs p n s o' e f3 f5 v4 L A := by
  have hnew := h.new
  have hso := h.so
  have hnd := h.nd
  simp only [ChP.fix, List.mem_cons, List.not_mem_nil, or_false, forall_eq_or_imp, forall_eq] at h0 hnew
  obtain ⟨a0, a1, a2, a3, a4, a5, a6, a7, a8, a9⟩ := h0
  obtain ⟨b0, b1, b2, b3, b4, b5, b6, b7, b8, b9⟩ := hnew
  refine ⟨lp, df, h.rz, h.x1, h.x3, h.x4, h.x5, bn, h.a3, h.a5, h.st, ?_, h.rf, h.fr, ?_, ?_, h.old⟩
  · intro i hi e1
    simp only [ChP.fix, List.mem_cons, List.not_mem_nil, or_false] at hi
    have := hv i e1
    rcases hi with rfl | rfl | rfl | rfl | rfl | rfl | rfl | rfl | rfl | rfl
    · omega
    · omega
    · exact hso _ (by simp [ChP.fix]) e1
    · exact hso _ (by simp [ChP.fix]) e1
    · exact hso _ (by simp [ChP.fix]) e1
    · exact hso _ (by simp [ChP.fix]) e1
    · exact hso _ (by simp [ChP.fix]) e1
    · omega
    · exact hso _ (by simp [ChP.fix]) e1
    · exact hso _ (by simp [ChP.fix]) e1
  · simp only [ChP.fix, List.nodup_cons, List.mem_cons, List.not_mem_nil, or_false, not_or] at hnd ⊢
    obtain ⟨-, -, ⟨c1, c2, c3, c4, c5, c6, c7⟩, ⟨d1, d2, d3, d4, d5, d6⟩, ⟨e1, e2, e3, e4, e5⟩, ⟨f1, f2, f3, f4⟩, ⟨g1, g2, g3⟩, ⟨i1, i2⟩, j1, k1, k2⟩ := hnd
    repeat' apply And.intro
    all_goals first | assumption | (clear c1 c2 c3 c4 c5 c6 c7 d1 d2 d3 d4 d5 d6 e1 e2 e3 e4 e5 f1 f2 f3 f4 g1 g2 g3 i1 i2; omega)
  · intro i hi
    simp only [ChP.fix, List.mem_cons, List.not_mem_nil, or_false] at hi
    rcases hi with rfl | rfl | rfl | rfl | rfl | rfl | rfl | rfl | rfl | rfl <;> first | assumption | omega
theorem usedB_out {R : Recs} {k : Nat} (h : R.length ≤ k) : usedB R k = false := by
  unfold usedB
  rw [List.getD_eq_getElem?_getD, List.getElem?_eq_none h]
  rfl
theorem endK (R : Recs) : ∀ m : Nat, (∀ j, namedK R (R.length + m) j = namedK R R.length j) ∧ (∀ j, nextK R (R.length + m) j = nextK R R.length j) ∧ startsK R (R.length + m) = startsK R R.length
  | 0 => ⟨fun _ => rfl, fun _ => rfl, rfl⟩
  | m + 1 => by
    obtain ⟨h1, h2, h3⟩ := endK R m
    have hu : usedB R (R.length + m) = false := usedB_out (by omega)
    exact ⟨fun j => (namedK_skip hu j).trans (h1 j), fun j => (nextK_skip hu j).trans (h2 j), (startsK_skip hu).trans h3⟩
theorem wpListIn_appK {F : Fence} {nn : Nat} {P : Program} (w : World) {ops : Array Oper} {rest : List Oper} {o : Oper} {a : Act} {Q : Exit → Act → World → Prop} (hgd : o.guard = none) (s x : Operand) (t : TypeId)
    (ho : o.op = .call { callee := .builtin .append, args := #[s, x], argTypes := #[t, t] })
    (base : Nat) (e : TypeId) (z : Value) (size bytes : Nat) (ht : P.underlying t = some (.slice e)) (hinfo : (P.info? e).map (fun i => (i.zero, i.size, i.bytes)) = some (some z, size, bytes))
    (hzs : z.cells.size = size) (hsz : 0 < size)
    (v : Value) (n : Nat) (xs : List Value) (hs : a.eval s = v) (hown : w.ownsRow base e size v n xs)
    (ao : Option Addr) (m c : Nat) (news : List Value) (hx : a.eval x = .slice ao m c) (hl : news.length = m * size) (hnews : ∀ a, ao = some a → ∀ j u, news[j]? = some u → w.cell? (a.add j) = some u) (hnone : ao = none → m = 0 ∧ c = 0) (h1 : ∀ u ∈ news, u.oneCell' = true)
    (h63 : n + m ≤ maxLen) (hbytes : (n + m) * bytes ≤ 140737488355328) (hbase : base ≤ w.heap.size)
    (h : ∀ v' w', App w w' base e size v v' n m xs news → wpListIn F nn P ops Q rest (a.put o.dst v') w') : wpListIn F nn P ops Q (o :: rest) a w := by
  obtain ⟨i, hi, hz, hsz2, hby⟩ := info_parts hinfo
  refine wpListIn_plain hgd fun K hK => ?_
  obtain ⟨v', w', hr, happ⟩ := run_appS (P := P) w base t o.type e i z size bytes ht hi hz hsz2 hby hzs hsz v n xs hown ao m c news hl hnews hnone h1 h63 hbytes hbase
  unfold Oper.wpIn
  refine ⟨?_, ?_⟩
  · simp [Oper.about, ho, resolve, Target.leads, Sem.run_pure]
  · rw [Oper.semAt_plain F _ _ (by rw [ho]; intro c hc'; cases hc')]
    simp [execOp, ho, resolve, invoke, builtin, hs, hx, hr, Result.andThen]
    exact hK _ _ (h v' w' happ)
theorem own_bytes25 {w : World} {B c : Nat} {a : Option Addr} {D : List UInt8} (h : w.ownsRow B 5 1 (.slice a 25 c) 25 (D.map B8)) (hD : D.length = 25) : Bytes w a D := by
  rw [← hD] at h
  obtain ⟨a', cap, e, hb, -⟩ := Bytes.of_own h
  simp only [Value.slice.injEq] at e
  obtain ⟨rfl, -, -⟩ := e
  exact hb
theorem mark_ret2 {P : Program} {n : Nat} {fn : Func} {R : Ending → World → Prop} {tmps : Array Value} {D D2 : Nat} {W : World} {v : Value} (h2 : W.heap[D2]? = some (.deferred (some []))) (h1 : W.heap[D]? = some (.deferred (some []))) (hne : D ≠ D2)
    (hr : (results fn tmps).run P ((W.putObj D2 (.deferred none)).putObj D (.deferred none)) = .ok v ((W.putObj D2 (.deferred none)).putObj D (.deferred none))) (hR : R (.returned v) ((W.putObj D2 (.deferred none)).putObj D (.deferred none))) :
    bodyPostM Fence.wide n P fn R .ret { tmps := tmps, defers := [{ target := .collected D2, args := #[] }, { target := .collected D, args := #[] }] } W :=
  ⟨by simp, .inl ⟨_, _, rfl, run_takeDeferred h2, by simp, .inl ⟨_, _, rfl, run_takeDeferred (by rw [World.putObj_heap_other hne]; exact h1), ⟨_, hr, hR⟩⟩⟩⟩
theorem sum_leC (f : Nat → Nat) (c : Nat) (h : ∀ i, f i ≤ c) : ∀ l : List Nat, (l.map f).sum ≤ l.length * c
  | [] => by simp
  | x :: l => by
    have := sum_leC f c h l
    have := h x
    rw [List.map_cons, List.sum_cons, List.length_cons, Nat.add_mul]
    omega
/-- the sum of the chains so far -/
def sumC (R : Recs) (L : List Nat) (i : Nat) : Nat := ((L.map fun (j : Nat) => chainN R (R.length + 1) (j : Int)).take i).sum
theorem sumC_succ (R : Recs) {L : List Nat} {i : Nat} (h : i < L.length) : sumC R L (i + 1) = sumC R L i + chainN R (R.length + 1) (L.getD i 0 : Nat) := by
  unfold sumC
  rw [sum_take (by rw [List.length_map]; exact h)]
  congr 1
  simp [List.getD, h]
theorem sumC_le (R : Recs) (L : List Nat) (i : Nat) (hR : R.length ≤ 65536) (hL : L.length ≤ 65536) : sumC R L i ≤ 4295032832 := by
  unfold sumC
  rw [← List.map_take]
  have h := sum_leC (fun (j : Nat) => chainN R (R.length + 1) (j : Int)) 65537 (fun j => Nat.le_trans (chainN_le R _ _) (by omega)) (L.take i)
  rw [List.length_take] at h
  omega
theorem sumC_all (R : Recs) : sumC R (startsK R R.length) (startsK R R.length).length = totalN R R.length := by
  unfold sumC totalN
  rw [List.take_of_length_le (by simp)]
set_option maxRecDepth 100000 in
set_option maxHeartbeats 6400000 in
theorem Check_F (B : Nat) (bs : List Nat) (w : World) (p : Nat) (s : RFS) (h : RF B bs w p s) :
    Calls Tryd.prog 10 #[.pointer (some ⟨p, 0, none⟩)] w fun e w' => e = .returned (.int .i64 (checkE s)) ∧ Fr [] w w' := by
  have HR := Lib.hid h
  have HOK := Lib.hid h.ok
  have HOLD := Lib.hid (fun i hi => (h.lt i hi).2)
  clear h
  refine (callsIn_wide (n := 5)).1 ?_
  refine callsIn_of_wp_marks Tryd.func10 rfl trivial ?_ rfl
  simp only [Tryd.ntmps10, List.size_toArray, List.length_cons, List.length_nil, Nat.reduceAdd, Nat.reduceSub, Array.replicate_succ, Array.replicate_zero, List.push_toArray, List.append_toArray, List.nil_append, List.cons_append]
  refine wpIn_wide.2 ?_
  obtain ⟨wz, hwz⟩ : ∃ wz, wz = (w.alloc (.cells #[.pointer (some ⟨p, 0, none⟩)] 24)).alloc (.cells #[.int .i64 0] 28) := ⟨_, rfl⟩
  go_upto_region 1 with fail
  rw [← hwz]
  have hfz : Fr [] w wz := by rw [hwz]; exact ((Fr.refl _ _).alloc _).alloc _
  have HZ1 := Lib.hid (show wz.heap[w.heap.size]? = some (.cells #[.pointer (some ⟨p, 0, none⟩)] 24) by rw [hwz]; exact ((Fr.refl [] _).alloc _).obj (heap_alloc_new w _) (by simp))
  have HZ2 := Lib.hid (show wz.heap[w.heap.size + 1]? = some (.cells #[.int .i64 0] 28) by
    rw [hwz]
    have := heap_alloc_new (w.alloc (.cells #[.pointer (some ⟨p, 0, none⟩)] 24)) (.cells #[.int .i64 0] 28)
    rwa [World.size_alloc] at this)
  have HSZ := Lib.hid (show wz.heap.size = w.heap.size + 2 by rw [hwz]; simp)
  have HFZ := Lib.hid hfz
  have HSI := Lib.hid (Size_F B bs wz p s (HR.out.keep hfz))
  have HCO := Lib.hid (Count_F B bs wz p s (HR.out.keep hfz))
  have z1 := cell_of_row _ _ 0 _ _ _ HZ1.out
  have z2 := cell_of_row _ _ 0 _ _ _ HZ2.out
  have z2f := frozen_of_row _ _ 0 _ _ HZ2.out
  simp at z1 z2
  clear hwz hfz
  by_cases h32 : s.sz = 32
  · rw [h32] at HSI
    go_wp2_with fail
    refine HSI.out.mono ?_
    rintro e w' ⟨rfl, rfl⟩
    go_wp2_with fail
    refine HCO.out.mono ?_
    rintro e w' ⟨rfl, rfl⟩
    obtain ⟨n, hn⟩ : ∃ n, n = s.R.length := ⟨_, rfl⟩
    rw [← hn]
    rw [← hn] at HCO
    have hn6 : n ≤ 65536 := by rw [hn]; exact HOK.out.len
    have hmk := makeI n (by omega)
    have HN := Lib.hid hn
    clear hn
    obtain ⟨w3, hw3⟩ : ∃ w3, w3 = ((wz.alloc (.cells (Array.replicate n (Value.int .i64 0)) 3)).alloc (.cells #[.slice (some ⟨wz.heap.size, 0, none⟩) n n] 30)) := ⟨_, rfl⟩
    go_upto_region 4 with fail
    rw [← hw3]
    have hf3 : Fr [] wz w3 := by rw [hw3]; exact ((Fr.refl _ _).alloc _).alloc _
    have HS3 := Lib.hid (show w3.heap.size = wz.heap.size + 2 by rw [hw3]; simp)
    have ha3 : Arr w3 wz.heap.size n (fun _ => 0) := by rw [hw3]; exact (Arr.made wz n).keep ((Fr.refl _ _).alloc _)
    have hx3 : w3.heap[wz.heap.size + 1]? = some (.cells #[.slice (some ⟨wz.heap.size, 0, none⟩) n n] 30) := by
      rw [hw3]
      have := heap_alloc_new (wz.alloc (.cells (Array.replicate n (Value.int .i64 0)) 3)) (.cells #[.slice (some ⟨wz.heap.size, 0, none⟩) n n] 30)
      rwa [World.size_alloc] at this
    clear hw3
    obtain ⟨w4, hw4⟩ : ∃ w4, w4 = (w3.alloc (.cells #[] 3)).alloc (.cells #[.slice (some ⟨w3.heap.size, 0, none⟩) 0 0] 30) := ⟨_, rfl⟩
    go_upto_region 5 with fail
    rw [← hw4]
    have hf4 : Fr [] w3 w4 := by rw [hw4]; exact ((Fr.refl _ _).alloc _).alloc _
    have HS4 := Lib.hid (show w4.heap.size = w3.heap.size + 2 by rw [hw4]; simp)
    have hst4 : w4.ownsRow w.heap.size 3 1 (.slice (some ⟨w3.heap.size, 0, none⟩) 0 0) 0 [] := by
      rw [hw4]
      have h := World.ownsRow_made w3 (e := 3) (size := 1) #[] 0 (Nat.le_refl _) (by unfold maxLen; omega) rfl
      exact own_base (own_fr h ((Fr.refl [] _).alloc _) (by simp)) (by have := HS3.out; have := HSZ.out; omega)
    have hx4 : w4.heap[w3.heap.size + 1]? = some (.cells #[.slice (some ⟨w3.heap.size, 0, none⟩) 0 0] 30) := by
      rw [hw4]
      have := heap_alloc_new (w3.alloc (.cells #[] 3)) (.cells #[.slice (some ⟨w3.heap.size, 0, none⟩) 0 0] 30)
      rwa [World.size_alloc] at this
    clear hw4
    have z1 := (hf3.trans hf4).cell z1 (by simp)
    have HCO4 := Lib.hid (Count_F B bs w4 p s (HR.out.keep (HFZ.out.trans (hf3.trans hf4))))
    rw [← HN.out] at HCO4
    obtain ⟨w5, hw5⟩ : ∃ w5, w5 = ((w4.alloc (.cells (Array.replicate n (Value.int .i64 0)) 3)).alloc (.cells #[.slice (some ⟨w4.heap.size, 0, none⟩) n n] 30)) := ⟨_, rfl⟩
    have HF3 := Lib.hid hf3
    have HA3 := Lib.hid ha3
    have HX3 := Lib.hid hx3
    have HF4 := Lib.hid hf4
    have HST4 := Lib.hid hst4
    have HX4 := Lib.hid hx4
    clear hf3 ha3 hx3 hf4 hst4 hx4
    go_wp2_with fail
    refine HCO4.out.mono ?_
    rintro e w' ⟨rfl, rfl⟩
    go_upto_region 6 with fail
    rw [← hw5]
    have hf5 : Fr [] w4 w5 := by rw [hw5]; exact ((Fr.refl _ _).alloc _).alloc _
    have HS5 := Lib.hid (show w5.heap.size = w4.heap.size + 2 by rw [hw5]; simp)
    have HA5 := Lib.hid (show Arr w5 w4.heap.size n (fun _ => 0) by rw [hw5]; exact (Arr.made w4 n).keep ((Fr.refl _ _).alloc _))
    have HX5 := Lib.hid (show w5.heap[w4.heap.size + 1]? = some (.cells #[.slice (some ⟨w4.heap.size, 0, none⟩) n n] 30) by
      rw [hw5]
      have := heap_alloc_new (w4.alloc (.cells (Array.replicate n (Value.int .i64 0)) 3)) (.cells #[.slice (some ⟨w4.heap.size, 0, none⟩) n n] 30)
      rwa [World.size_alloc] at this)
    have z1 := hf5.cell z1 (by simp)
    have HF5 := Lib.hid hf5
    clear hw5 hf5 hmk z2 z2f
    have HAL := Lib.hid (All_F p w5)
    go_wp2_with fail
    refine HAL.out.mono ?_
    rintro e w6 ⟨rfl, hbn, hf6, hs6⟩
    have HBN := Lib.hid hbn
    have HF6 := Lib.hid hf6
    have HS6 := Lib.hid hs6
    clear hbn hf6 hs6 z1 HAL
    go_wp2_with fail
    refine (wpIn_wide (n := 5)).1 ?_
    refine range_wide rfl (enters_of Tryd.func60 (by kernel_rfl) rfl) ?_
    intro fn W1 hlr hD hf1 hsz1
    have HSZ6 := Lib.hid (show w6.heap.size = w.heap.size + 9 ∧ w5.heap.size = w.heap.size + 8 ∧ w4.heap.size = w.heap.size + 6 ∧ w3.heap.size = w.heap.size + 4 ∧ wz.heap.size = w.heap.size + 2 by have := HSZ.out; have := HS3.out; have := HS4.out; have := HS5.out; have := HS6.out; omega)
    obtain ⟨D, hDD⟩ : ∃ D, D = w6.heap.size := ⟨_, rfl⟩
    rw [← hDD] at hlr hD hsz1 ⊢
    obtain ⟨Bn, hBn⟩ : ∃ Bn, Bn = w5.heap.size := ⟨_, rfl⟩
    rw [← hBn] at HBN hlr ⊢
    obtain ⟨X3, hX3⟩ : ∃ X3, X3 = wz.heap.size + 1 := ⟨_, rfl⟩
    obtain ⟨X4, hX4⟩ : ∃ X4, X4 = w3.heap.size + 1 := ⟨_, rfl⟩
    obtain ⟨X5, hX5⟩ : ∃ X5, X5 = w4.heap.size + 1 := ⟨_, rfl⟩
    obtain ⟨X2, hX2⟩ : ∃ X2, X2 = w.heap.size + 1 := ⟨_, rfl⟩
    rw [← hX3, ← hX4, ← hX5, ← hX2] at hlr ⊢
    obtain ⟨g3, hg3⟩ : ∃ g3, g3 = wz.heap.size := ⟨_, rfl⟩
    obtain ⟨g5, hg5⟩ : ∃ g5, g5 = w4.heap.size := ⟨_, rfl⟩
    obtain ⟨R, hR, hlr2⟩ := lp_take hlr
    obtain ⟨P, hP⟩ : ∃ P : ChP, P = ⟨D + 1, D, X2, w.heap.size, X3, X4, X5, Bn, g3, g5⟩ := ⟨_, rfl⟩
    have hf41 := HF5.out.trans (HF6.out.trans hf1)
    have hf31 := HF4.out.trans hf41
    have hfz1 := HF3.out.trans hf31
    have HST : Hid (ChS P w B bs p n s (R .ready none) 0 (fun j => (namedK s.R 0 j : Nat)) (nextK s.R 0) (.slice (some ⟨w3.heap.size, 0, none⟩) 0 0) (startsK s.R 0) W1) := Lib.hid (by
      have hz := HSZ6.out
      subst hP
      have e3 : ∀ j, (namedK s.R 0 j : Int) = 0 := fun j => by unfold namedK cntN; simp
      have e5 : ∀ j, nextK s.R 0 j = 0 := fun j => by unfold nextK; simp
      refine ⟨hlr2, hD, ?_, hfz1.obj HZ1.out (by simp), ?_, ?_, ?_, hf1.obj HBN.out (by simp), ?_, ?_, ?_, ?_, HR.out.keep (HFZ.out.trans hfz1), HFZ.out.trans hfz1, ?_, ?_, HOLD.out⟩
      · rw [hX2]; exact hfz1.obj HZ2.out (by simp)
      · show W1.heap[X3]? = some (.cells #[.slice (some ⟨g3, 0, none⟩) n n] 30)
        rw [hX3, hg3]; exact hf31.obj HX3.out (by simp)
      · rw [hX4]; exact hf41.obj HX4.out (by simp)
      · show W1.heap[X5]? = some (.cells #[.slice (some ⟨g5, 0, none⟩) n n] 30)
        rw [hX5, hg5]; exact (HF6.out.trans hf1).obj HX5.out (by simp)
      · show Arr W1 g3 n _
        rw [hg3]; exact (HA3.out.keep hf31).congr fun j _ => e3 j
      · show Arr W1 g5 n _
        rw [hg5]; exact (HA5.out.keep (HF6.out.trans hf1)).congr fun j _ => e5 j
      · exact own_fr HST4.out hf41 (by simp)
      · intro i hi e
        simp [Value.ownBlock] at e
        simp [ChP.fix] at hi
        omega
      · simp [ChP.fix]; omega
      · intro i hi; simp [ChP.fix] at hi; omega)
    have HRR := Lib.hid hR
    have e4 : P.l = D + 1 ∧ P.D = D ∧ P.RZ = X2 ∧ P.X1 = w.heap.size ∧ P.X3 = X3 ∧ P.X4 = X4 ∧ P.X5 = X5 ∧ P.Bn = Bn ∧ P.g3 = g3 ∧ P.g5 = g5 := by subst hP; exact ⟨rfl, rfl, rfl, rfl, rfl, rfl, rfl, rfl, rfl, rfl⟩
    have HE4 := Lib.hid e4
    have HPP := Lib.hid hP
    have HX2 := Lib.hid hX2
    have VW : Hid (∀ (o : Obj) (e : Int) (f3 f5 : Nat → Int) (v4 : Value) (L : List Nat) (A : World), ChS P w B bs p n s o e f3 f5 v4 L A → A.cell? ⟨w.heap.size, 0, none⟩ = some (.pointer (some ⟨p, 0, none⟩)) ∧ A.cell? ⟨X3, 0, none⟩ = some (.slice (some ⟨g3, 0, none⟩) n n) ∧ A.cell? ⟨X4, 0, none⟩ = some v4 ∧ A.cell? ⟨X5, 0, none⟩ = some (.slice (some ⟨g5, 0, none⟩) n n) ∧ A.cell? ⟨X2, 0, none⟩ = some (.int .i64 e) ∧ A.frozen? ⟨X2, 0, none⟩ = false ∧ A.frozen? ⟨X4, 0, none⟩ = false) := Lib.hid fun o e f3 f5 v4 L A h => by
      subst hP
      exact ⟨cell_of_row _ _ 0 _ _ _ h.x1, cell_of_row _ _ 0 _ _ _ h.x3, cell_of_row _ _ 0 _ _ _ h.x4, cell_of_row _ _ 0 _ _ _ h.x5, cell_of_row _ _ 0 _ _ _ h.rz, frozen_of_row _ _ 0 _ _ h.rz, frozen_of_row _ _ 0 _ _ h.x4⟩
    clear hP e4 hDD hBn hX3 hX4 hX5 hX2 hg3 hg5 hf41 hf31 hfz1 hlr2 hD hf1 hsz1 hlr
    refine (AllF1_in 4 (D + 1) Bn p B W1 s (fun id s' A => s' = s ∧ (∀ i, i < id → usedB s.R i = true → sndR s.R i = true) ∧ ∃ v4, ChS P w B bs p n s (R .ready none) 0 (fun j => (namedK s.R id j : Nat)) (nextK s.R id) v4 (startsK s.R id) A)
      (fun A => soundAll s.R = false ∧ ∃ v4 f3 f5 L, ChS P w B bs p n s (R .done (some .ret)) 100 f3 f5 v4 L A) ?_ ?_ ?_ ?_).mono ?_
    · rintro id s' A ⟨rfl, -, v4, h⟩
      refine ⟨⟨bs, h.rf⟩, ?_⟩
      have h2 := cell_of_row _ _ 0 _ _ _ h.bn
      rw [HE4.out.2.2.2.2.2.2.2.1] at h2
      exact h2
    · exact ⟨rfl, fun i hi => absurd hi (by omega), _, HST.out⟩
    · rintro id s' A ⟨rfl, hs, v4, h⟩ hid hnn
      have hu : usedB s'.R id = false := by unfold usedB; rw [hnn]; rfl
      refine ⟨rfl, fun i hi hu2 => ?_, v4, ?_⟩
      · by_cases h3 : i = id
        · subst h3; rw [hu] at hu2; cases hu2
        · exact hs i (by omega) hu2
      · rw [show (fun j => ((namedK s'.R (id + 1) j : Nat) : Int)) = (fun j => ((namedK s'.R id j : Nat) : Int)) from funext fun j => by rw [namedK_skip hu], show nextK s'.R (id + 1) = nextK s'.R id from funext (nextK_skip hu), startsK_skip hu]
        exact h
    · rintro id s' d g c A W2 ⟨hss, hsd, v4, hst⟩ hd hfA hg hown
      subst hss
      have hss : s' = s' := rfl
      have h2 := hst.keep hfA
      have hl2 := h2.lp
      rw [HE4.out.1, hR] at hl2
      have HFX : Hid (∀ i ∈ P.fix, i < A.heap.size) := Lib.hid hst.lt
      have HA2 := Lib.hid hfA.size
      have HD31 := Lib.hid (show d.length = 31 by have := HOK.out.dat d (List.mem_of_getElem? hd); omega)
      have hidn : id < n := by rw [HN.out]; exact (List.getElem?_eq_some_iff.1 hd).1
      have HREC : Hid (recAt s'.R id = d) := Lib.hid (by unfold recAt; rw [List.getD_eq_getElem?_getD, hd]; rfl)
      have HUS : Hid (usedB s'.R id = true) := Lib.hid (by unfold usedB; rw [List.getD_eq_getElem?_getD, hd]; rfl)
      have HS2 := Lib.hid h2
      have HOWN := Lib.hid hown
      have HG := Lib.hid (show A.heap.size ≤ g from hg)
      have HSD := Lib.hid hsd
      have HAW : Hid (w.heap.size ≤ A.heap.size) := Lib.hid hst.fr.size
      clear hst hfA hg hown hd hsd h2 hss HST
      refine yield_wide hl2 rfl ?_
      have HL2 := Lib.hid hl2
      clear hl2
      gi_wp2_with fail
      refine ⟨HL2.out, ?_⟩
      generalize hWb : World.putObj W2 (D + 1) _ = Wb
      have HSB : Hid (ChS P w B bs p n s' (R .busy none) 0 (fun j => (namedK s'.R id j : Nat)) (nextK s'.R id) v4 (startsK s'.R id) Wb) := Lib.hid (by
        have h := HS2.out.putL (o' := R .busy none)
        rw [HE4.out.1] at h
        rw [← hWb]
        rw [HRR.out] at h ⊢
        exact h)
      have HOWB : Hid (Wb.ownsRow A.heap.size 5 1 (.slice (some ⟨g, 0, none⟩) d.length c) d.length (d.map B8)) := Lib.hid (by
        rw [← hWb]
        exact own_fr HOWN.out ((Fr.refl [D + 1] W2).putObj (by simp) _) (fun i hi hm => by
          have h1 : g = i := by simpa [Value.ownBlock] using hi
          simp at hm
          have := HFX.out P.l (by simp [ChP.fix])
          rw [HE4.out.1] at this
          have := HG.out
          omega))
      have HA3' : Hid (A.heap.size ≤ Wb.heap.size) := Lib.hid (by rw [← hWb]; have := HA2.out; simpa using this)
      clear hWb HS2 HOWN
      have HPA := Lib.hid (parse_F (some ⟨g, 0, none⟩) c d Wb HD31.out (own_bytes HOWB.out))
      gi_wp2_with fail
      refine ⟨trivial, (CallsIn.inRound _ (callsIn_wide.2 HPA.out)).mono ?_⟩
      rintro e w7 ⟨pv, rfl, hpo, hpf⟩
      obtain ⟨pa, pc, hpv⟩ := own_slR hpo
      subst hpv
      obtain ⟨st, hst⟩ : ∃ st, st = pSt d := ⟨_, rfl⟩
      obtain ⟨us, hus⟩ : ∃ us, us = pUs d := ⟨_, rfl⟩
      obtain ⟨nx, hnx⟩ : ∃ nx, nx = pNx d := ⟨_, rfl⟩
      rw [← hst, ← hus, ← hnx]
      have HSX := Lib.hid hst
      have HUU := Lib.hid hus
      have HNX := Lib.hid hnx
      obtain ⟨wb, hwb⟩ : ∃ wb, wb = w7.alloc (.cells #[.int .i64 st, .int .i64 us, .int .i64 nx, .slice pa 25 pc] 73) := ⟨_, rfl⟩
      have hfb : Fr [] w7 wb := by rw [hwb]; exact (Fr.refl _ _).alloc _
      have HBX := Lib.hid (show wb.heap[w7.heap.size]? = some (.cells #[.int .i64 st, .int .i64 us, .int .i64 nx, .slice pa 25 pc] 73) by rw [hwb]; exact heap_alloc_new w7 _)
      have HPB := Lib.hid (own_fr hpo hfb (by simp))
      have HSC := Lib.hid (HSB.out.keep (hpf.trans hfb))
      have HW7 := Lib.hid hpf.size
      have HSO := Lib.hid (sound_F B bs wb p s' HSC.out.rf st us nx pa pc (pDa d) (by rw [hst]; exact nm_leB1 d 0) (by rw [hus]; exact nm_leB1 d 1) (by rw [hnx]; unfold pNx; omega) (by have := nm_le d 2 4 (by omega); rw [hnx]; unfold pNx; omega) (pDa_length HD31.out) (own_cap25 HPB.out) (own_bytes25 HPB.out (pDa_length HD31.out)))
      have HSND := Lib.hid (show sndR s'.R id = soundV s'.R st us nx (pDa d) by unfold sndR; rw [HREC.out, hst, hus, hnx])
      have HNXT := Lib.hid (show nxtR s'.R id = nx by unfold nxtR; rw [HREC.out, hnx])
      have HSTB := Lib.hid (show stB s'.R id = (st == 1) by unfold stB; rw [HREC.out, hst])
      clear hst hus hnx hpo hpf hfb HPA
      obtain ⟨v1, v3, v4c, v5, v2, v2f, v4f⟩ := VW.out _ _ _ _ _ _ _ HSC.out
      have v1' := v1
      rw [hwb] at v1'
      gi_wp2_with fail
      rw [← hwb]
      clear v1' hwb
      refine ⟨trivial, (CallsIn.inRound _ (callsIn_wide.2 HSO.out)).mono ?_⟩
      rintro e w8 ⟨rfl, hf8⟩
      obtain ⟨cS, hcS⟩ : ∃ c : Bool, c = soundV s'.R st us nx (pDa d) := ⟨_, rfl⟩
      rw [← hcS]
      rw [← hcS] at HSND
      have HS8 := Lib.hid (HSC.out.keep hf8)
      have HB8 := Lib.hid (hf8.obj HBX.out (by simp))
      have HF8 := Lib.hid hf8
      clear hcS hf8 HSO v1 v3 v4c v5 v2 v2f v4f
      obtain ⟨v1, v3, v4c, v5, v2, v2f, v4f⟩ := VW.out _ _ _ _ _ _ _ HS8.out
      obtain ⟨y0, y1, y2, y3⟩ := fourB HB8.out
      cases cS with
      | false =>
        gi_wp2_with fail
        rw [← HRR.out]
        have hse := HS8.out.setE 100
        rw [HE4.out.2.2.1] at hse
        have hlp := hse.lp
        have hpl := hse.putL (o' := R .done (some .ret))
        rw [HE4.out.1] at hlp hpl
        refine ⟨hlp, .inr ⟨rfl, ?_, _, _, _, _, hpl⟩⟩
        cases hsa : soundAll s'.R with
        | false => rfl
        | true => exact absurd ((soundAll_at hsa HUS.out).symm.trans HSND.out) (by decide)
      | true =>
        gi_upto_region 12 with fail
        obtain ⟨c5, q5⟩ := HS8.out.a5.cell hidn
        rw [HE4.out.2.2.2.2.2.2.2.2.2] at c5 q5
        have hi0 : (0 : Int) ≤ (id : Int) := by omega
        have hii : (id : Int) < (n : Int) := by omega
        have hs9 := HS8.out.set5 (f5' := nextK s'.R (id + 1)) id nx (by rw [(nextK_on HUS.out).1, HNXT.out]) (fun j _ hj => (nextK_on HUS.out).2 j hj)
        rw [HE4.out.2.2.2.2.2.2.2.2.2] at hs9
        have HBN9 : Hid (∀ i ∈ P.fix, w7.heap.size ≠ i) := Lib.hid (fun i hi e => by have := HFX.out i hi; have := HA3'.out; have := HW7.out; omega)
        have hb9 := ((Fr.refl [g5] w8).setCell (p := ⟨g5, id, none⟩) (by simp) (.int .i64 nx)).obj HB8.out (by have := HBN9.out P.g5 (by simp [ChP.fix]); rw [HE4.out.2.2.2.2.2.2.2.2.2] at this; simpa using this)
        have HSD1 : Hid (∀ i, i < id + 1 → usedB s'.R i = true → sndR s'.R i = true) := Lib.hid (fun i hi hu2 => by
          by_cases h3 : i = id
          · subst h3; exact HSND.out
          · exact HSD.out i (by omega) hu2)
        have HNU := Lib.hid (sndR_next HSND.out)
        rw [HNXT.out] at HNU
        gi_upto_region 13 with fail
        clear v1 v3 v4c v5 v2 v2f v4f y0 y1 y2 y3 c5 q5
        generalize w8.setCell ⟨g5, id, none⟩ (.int .i64 nx) = w9 at hs9 hb9 ⊢
        obtain ⟨y0, y1, y2, y3⟩ := fourB hb9
        have HS9 := Lib.hid hs9
        have HB9 := Lib.hid hb9
        clear hs9 hb9
        by_cases hn1 : nx = -1
        · have hni : (nx != -1) = false := by rw [hn1]; rfl
          have HN1 := Lib.hid hn1
          clear hn1
          gi_upto_region 15 with fail
          have hs10 : ChS P w B bs p n s' (R .busy none) 0 (fun j => (namedM s'.R id j : Nat)) (nextK s'.R (id + 1)) v4 (startsK s'.R id) w9 := by
            rw [show (fun j => ((namedM s'.R id j : Nat) : Int)) = (fun j => ((namedK s'.R id j : Nat) : Int)) from funext fun j => by
              unfold namedM
              rw [HNXT.out, HN1.out]
              simp]
            exact HS9.out
          have hb10 := HB9.out
          have HS10 := Lib.hid hs10
          have HB10 := Lib.hid hb10
          clear hs10 hb10
          obtain ⟨v1, v3, v4c, v5, v2, v2f, v4f⟩ := VW.out _ _ _ _ _ _ _ HS10.out
          obtain ⟨y0, y1, y2, y3⟩ := fourB HB10.out
          by_cases h1 : st = 1
          · have h1i : ((st : Int) == 1) = true := by rw [beq_iff_eq]; omega
            have HST1 : Hid (stB s'.R id = true) := Lib.hid (by rw [HSTB.out, h1]; rfl)
            clear h1
            gi_upto_region 16 with fail
            have hfx : Fr [] w9 (w9.alloc (.cells #[.int .i64 (id : Int)] 3)) := (Fr.refl [] _).alloc _
            have HSY := Lib.hid (HS10.out.keep hfx)
            have hnews : ∀ a, some (⟨w9.heap.size, 0, none⟩ : Addr) = some a → ∀ j u, [Value.int .i64 (id : Int)][j]? = some u → (w9.alloc (.cells #[.int .i64 (id : Int)] 3)).cell? (a.add j) = some u := by
              intro a ha j u hu
              cases ha
              have hz := heap_alloc_new w9 (.cells #[.int .i64 (id : Int)] 3)
              rw [addO, Nat.zero_add, cell_of_row _ _ j _ _ _ hz]
              simpa using hu
            have HNEWS := Lib.hid hnews
            have HBW := Lib.hid (show w.heap.size ≤ (w9.alloc (.cells #[.int .i64 (id : Int)] 3)).heap.size from HSY.out.fr.size)
            obtain ⟨L, hL⟩ : ∃ L, L = startsK s'.R id := ⟨_, rfl⟩
            have hll : L.length ≤ 65536 := by have := startsK_len s'.R id; rw [hL]; omega
            have HSZ' := HSY.out
            rw [← hL] at HSZ'
            obtain ⟨a4, c4, hv4⟩ := own_slR HSZ'.st
            subst hv4
            have HSW := Lib.hid HSZ'
            have HLL := Lib.hid hL
            clear HSZ' hL hnews hfx v1 v2 v2f v3 v5 y0 y1 y2 y3
            gi_upto_region 17 with (gi_at_builtin; refine wpListIn_appK _ rfl _ _ 30 rfl w.heap.size 3 _ 1 8 Tryd.underlying30 infoI rfl (by decide) (.slice a4 L.length c4) L.length (L.map fun (k : Nat) => Value.int .i64 k) rfl HSW.out.st (some ⟨w9.heap.size, 0, none⟩) 1 1 [.int .i64 (id : Int)] rfl rfl HNEWS.out (fun h => by cases h) (by simp [Value.oneCell']) (by unfold maxLen; omega) (by omega) HBW.out ?_; intro v' w11 happ; obtain ⟨a6, c6, e6⟩ := own_slR happ.own; subst e6; have HAPP := Lib.hid happ; have hx4 := (app_frZ happ).obj HSW.out.x4 (fun hm => HSW.out.so P.X4 (by simp [ChP.fix]) (by simpa using hm)); rw [HE4.out.2.2.2.2.2.1] at hx4; have x4c := cell_of_row _ _ 0 _ _ _ hx4; have x4f := frozen_of_row _ _ 0 _ _ hx4; simp at x4c; clear happ hx4)
            have hs12 := HSW.out.app4 HAPP.out
            rw [HE4.out.2.2.2.2.2.1] at hs12
            generalize w11.setCell ⟨X4, 0, none⟩ (.slice a6 (L.length + 1) c6) = w12 at hs12 ⊢
            have HS12 := Lib.hid hs12
            clear hs12 x4c x4f v4c v4f
            obtain ⟨v1, v3, v4c, v5, v2, v2f, v4f⟩ := VW.out _ _ _ _ _ _ _ HS12.out
            obtain ⟨z, hz⟩ : ∃ z, z = namedM s'.R id id := ⟨_, rfl⟩
            have hz6 : z ≤ 70000 := by have := namedK_le s'.R id id; rw [hz]; unfold namedM; split <;> omega
            obtain ⟨c3, q3⟩ := HS12.out.a3.cell hidn
            rw [HE4.out.2.2.2.2.2.2.2.2.1, ← hz] at c3
            rw [HE4.out.2.2.2.2.2.2.2.2.1] at q3
            have e2 : IntKind.i64.wrap ((z : Int) + 1) = (z : Int) + 1 := IntWalk.i64_in _ (by omega)
            have HZZ := Lib.hid hz
            clear hz v1 v2 v2f v4c v4f v5
            gi_wp2_with fail
            rw [← HRR.out]
            have hs13 := HS12.out.set3 (f3' := fun j => (namedK s'.R (id + 1) j : Nat)) id ((z : Int) + 1) (by show ((namedK s'.R (id + 1) id : Nat) : Int) = _; rw [namedK_on HUS.out, HST1.out, HZZ.out]; simp) (fun j _ hj => by
              show ((namedK s'.R (id + 1) j : Nat) : Int) = _
              rw [namedK_on HUS.out, decide_eq_false hj]
              simp)
            rw [HE4.out.2.2.2.2.2.2.2.2.1] at hs13
            have hlp := hs13.lp
            have hpl := hs13.putL (o' := R .ready none)
            rw [HE4.out.1] at hlp hpl
            refine ⟨hlp, .inl ⟨rfl, HSD1.out, .slice a6 (L.length + 1) c6, ?_⟩⟩
            rw [startsK_succ, HST1.out, HUS.out, ← HLL.out]
            exact hpl
          · have h1i : ((st : Int) == 1) = false := by rw [beq_eq_false_iff_ne]; omega
            have HST1 : Hid (stB s'.R id = false) := Lib.hid (by rw [HSTB.out, beq_eq_false_iff_ne]; exact h1)
            clear h1
            gi_wp2_with fail
            rw [← HRR.out]
            have hlp := HS10.out.lp
            have hpl := HS10.out.putL (o' := R .ready none)
            rw [HE4.out.1] at hlp hpl
            refine ⟨hlp, .inl ⟨rfl, HSD1.out, v4, ?_⟩⟩
            rw [show (fun j => ((namedK s'.R (id + 1) j : Nat) : Int)) = (fun j => ((namedM s'.R id j : Nat) : Int)) from funext fun j => by rw [namedK_on HUS.out, HST1.out]; simp, startsK_succ, HST1.out]
            simpa using hpl
        · have hni : (nx != -1) = true := by rw [bne_iff_ne]; exact hn1
          obtain ⟨kk0, kk1, -⟩ := usedR_lt (HNU.out.resolve_left hn1)
          obtain ⟨k, rfl⟩ : ∃ k : Nat, nx = k := ⟨nx.toNat, by omega⟩
          rw [← HN.out] at kk1
          have hkn : k < n := by omega
          clear hn1
          obtain ⟨v1, v3, v4c, v5, v2, v2f, v4f⟩ := VW.out _ _ _ _ _ _ _ HS9.out
          obtain ⟨x, hx⟩ : ∃ x, x = namedK s'.R id k := ⟨_, rfl⟩
          have hx6 : x ≤ 70000 := by have := namedK_le s'.R id k; omega
          obtain ⟨c3, q3⟩ := HS9.out.a3.cell hkn
          rw [HE4.out.2.2.2.2.2.2.2.2.1] at c3 q3
          rw [← hx] at c3
          have e1 : IntKind.i64.wrap ((x : Int) + 1) = (x : Int) + 1 := IntWalk.i64_in _ (by omega)
          have HXX := Lib.hid hx
          clear hx
          gi_upto_region 15 with fail
          have hs10 := HS9.out.set3 (f3' := fun j => (namedM s'.R id j : Nat)) k ((x : Int) + 1) (by show ((namedM s'.R id k : Nat) : Int) = _; unfold namedM; rw [HNXT.out, HXX.out]; simp) (fun j _ hj => by
            show ((namedM s'.R id j : Nat) : Int) = _
            unfold namedM
            rw [HNXT.out, if_neg (by simp; omega)]
            rfl)
          rw [HE4.out.2.2.2.2.2.2.2.2.1] at hs10
          have hb10 := ((Fr.refl [g3] w9).setCell (p := ⟨g3, k, none⟩) (by simp) (.int .i64 ((x : Int) + 1))).obj HB9.out (by have := HBN9.out P.g3 (by simp [ChP.fix]); rw [HE4.out.2.2.2.2.2.2.2.2.1] at this; simpa using this)
          clear v1 v3 v4c v5 v2 v2f v4f y0 y1 y2 y3 c3 q3 e1
          generalize w9.setCell ⟨g3, k, none⟩ (.int .i64 ((x : Int) + 1)) = w10 at hs10 hb10 ⊢
          have HS10 := Lib.hid hs10
          have HB10 := Lib.hid hb10
          clear hs10 hb10
          obtain ⟨v1, v3, v4c, v5, v2, v2f, v4f⟩ := VW.out _ _ _ _ _ _ _ HS10.out
          obtain ⟨y0, y1, y2, y3⟩ := fourB HB10.out
          by_cases h1 : st = 1
          · have h1i : ((st : Int) == 1) = true := by rw [beq_iff_eq]; omega
            have HST1 : Hid (stB s'.R id = true) := Lib.hid (by rw [HSTB.out, h1]; rfl)
            clear h1
            gi_upto_region 16 with fail
            have hfx : Fr [] w10 (w10.alloc (.cells #[.int .i64 (id : Int)] 3)) := (Fr.refl [] _).alloc _
            have HSY := Lib.hid (HS10.out.keep hfx)
            have hnews : ∀ a, some (⟨w10.heap.size, 0, none⟩ : Addr) = some a → ∀ j u, [Value.int .i64 (id : Int)][j]? = some u → (w10.alloc (.cells #[.int .i64 (id : Int)] 3)).cell? (a.add j) = some u := by
              intro a ha j u hu
              cases ha
              have hz := heap_alloc_new w10 (.cells #[.int .i64 (id : Int)] 3)
              rw [addO, Nat.zero_add, cell_of_row _ _ j _ _ _ hz]
              simpa using hu
            have HNEWS := Lib.hid hnews
            have HBW := Lib.hid (show w.heap.size ≤ (w10.alloc (.cells #[.int .i64 (id : Int)] 3)).heap.size from HSY.out.fr.size)
            obtain ⟨L, hL⟩ : ∃ L, L = startsK s'.R id := ⟨_, rfl⟩
            have hll : L.length ≤ 65536 := by have := startsK_len s'.R id; rw [hL]; omega
            have HSZ' := HSY.out
            rw [← hL] at HSZ'
            obtain ⟨a4, c4, hv4⟩ := own_slR HSZ'.st
            subst hv4
            have HSW := Lib.hid HSZ'
            have HLL := Lib.hid hL
            clear HSZ' hL hnews hfx v1 v2 v2f v3 v5 y0 y1 y2 y3
            gi_upto_region 17 with (gi_at_builtin; refine wpListIn_appK _ rfl _ _ 30 rfl w.heap.size 3 _ 1 8 Tryd.underlying30 infoI rfl (by decide) (.slice a4 L.length c4) L.length (L.map fun (k : Nat) => Value.int .i64 k) rfl HSW.out.st (some ⟨w10.heap.size, 0, none⟩) 1 1 [.int .i64 (id : Int)] rfl rfl HNEWS.out (fun h => by cases h) (by simp [Value.oneCell']) (by unfold maxLen; omega) (by omega) HBW.out ?_; intro v' w11 happ; obtain ⟨a6, c6, e6⟩ := own_slR happ.own; subst e6; have HAPP := Lib.hid happ; have hx4 := (app_frZ happ).obj HSW.out.x4 (fun hm => HSW.out.so P.X4 (by simp [ChP.fix]) (by simpa using hm)); rw [HE4.out.2.2.2.2.2.1] at hx4; have x4c := cell_of_row _ _ 0 _ _ _ hx4; have x4f := frozen_of_row _ _ 0 _ _ hx4; simp at x4c; clear happ hx4)
            have hs12 := HSW.out.app4 HAPP.out
            rw [HE4.out.2.2.2.2.2.1] at hs12
            generalize w11.setCell ⟨X4, 0, none⟩ (.slice a6 (L.length + 1) c6) = w12 at hs12 ⊢
            have HS12 := Lib.hid hs12
            clear hs12 x4c x4f v4c v4f
            obtain ⟨v1, v3, v4c, v5, v2, v2f, v4f⟩ := VW.out _ _ _ _ _ _ _ HS12.out
            obtain ⟨z, hz⟩ : ∃ z, z = namedM s'.R id id := ⟨_, rfl⟩
            have hz6 : z ≤ 70000 := by have := namedK_le s'.R id id; rw [hz]; unfold namedM; split <;> omega
            obtain ⟨c3, q3⟩ := HS12.out.a3.cell hidn
            rw [HE4.out.2.2.2.2.2.2.2.2.1, ← hz] at c3
            rw [HE4.out.2.2.2.2.2.2.2.2.1] at q3
            have e2 : IntKind.i64.wrap ((z : Int) + 1) = (z : Int) + 1 := IntWalk.i64_in _ (by omega)
            have HZZ := Lib.hid hz
            clear hz v1 v2 v2f v4c v4f v5
            gi_wp2_with fail
            rw [← HRR.out]
            have hs13 := HS12.out.set3 (f3' := fun j => (namedK s'.R (id + 1) j : Nat)) id ((z : Int) + 1) (by show ((namedK s'.R (id + 1) id : Nat) : Int) = _; rw [namedK_on HUS.out, HST1.out, HZZ.out]; simp) (fun j _ hj => by
              show ((namedK s'.R (id + 1) j : Nat) : Int) = _
              rw [namedK_on HUS.out, decide_eq_false hj]
              simp)
            rw [HE4.out.2.2.2.2.2.2.2.2.1] at hs13
            have hlp := hs13.lp
            have hpl := hs13.putL (o' := R .ready none)
            rw [HE4.out.1] at hlp hpl
            refine ⟨hlp, .inl ⟨rfl, HSD1.out, .slice a6 (L.length + 1) c6, ?_⟩⟩
            rw [startsK_succ, HST1.out, HUS.out, ← HLL.out]
            exact hpl
          · have h1i : ((st : Int) == 1) = false := by rw [beq_eq_false_iff_ne]; omega
            have HST1 : Hid (stB s'.R id = false) := Lib.hid (by rw [HSTB.out, beq_eq_false_iff_ne]; exact h1)
            clear h1
            gi_wp2_with fail
            rw [← HRR.out]
            have hlp := HS10.out.lp
            have hpl := HS10.out.putL (o' := R .ready none)
            rw [HE4.out.1] at hlp hpl
            refine ⟨hlp, .inl ⟨rfl, HSD1.out, v4, ?_⟩⟩
            rw [show (fun j => ((namedK s'.R (id + 1) j : Nat) : Int)) = (fun j => ((namedM s'.R id j : Nat) : Int)) from funext fun j => by rw [namedK_on HUS.out, HST1.out]; simp, startsK_succ, HST1.out]
            simpa using hpl
    · rintro e W2 ⟨⟨vv, rfl⟩, (⟨id, s1, A, ⟨hss, hsd, v4, hst⟩, hid, hfA⟩ | ⟨hsa, v4, f3, f5, L, hst⟩)⟩
      · have hss' := hss.symm
        subst hss'
        refine ⟨⟨_, rfl⟩, .inl ?_⟩
        have h2 := hst.keep hfA
        have hl2 := h2.lp
        rw [HE4.out.1, hR] at hl2
        refine ⟨hl2, ?_⟩
        generalize hWb : World.putObj W2 (D + 1) _ = Wb
        have HSB := Lib.hid (show ChS P w B bs p n s (R .exhausted none) 0 (fun j => (namedK s.R id j : Nat)) (nextK s.R id) v4 (startsK s.R id) Wb by
          have h := h2.putL (o' := R .exhausted none)
          rw [HE4.out.1] at h
          rw [← hWb]
          rw [HRR.out] at h ⊢
          exact h)
        have HSD := Lib.hid hsd
        have HID := Lib.hid hid
        clear hWb hl2 h2 hfA hst hsd hid hss HST
        obtain ⟨v1, v3, v4c, v5, v2, v2f, v4f⟩ := VW.out _ _ _ _ _ _ _ HSB.out
        have HAL := Lib.hid (All_F p Wb)
        have H32 := Lib.hid h32
        clear h32 hR
        go_wp2_with fail
        refine HAL.out.mono ?_
        rintro e wc ⟨rfl, hbn, hfc, hsc⟩
        have HBN2 := Lib.hid hbn
        have HSC := Lib.hid (HSB.out.keep hfc)
        have HSZC := Lib.hid hsc
        clear hbn hfc hsc v1 v3 v4c v5 v2 v2f v4f HAL
        go_wp2_with fail
        refine (wpIn_wide (n := 5)).1 ?_
        refine range_wide rfl (enters_of Tryd.func60 (by kernel_rfl) rfl) ?_
        intro fn2 W3 hlr hD hf1 hsz1
        have hmid : s.R.length + (id - s.R.length) = id := by have := HID.out; omega
        obtain ⟨k1, k2, k3⟩ := endK s.R (id - s.R.length)
        rw [hmid] at k1 k2 k3
        have hs3 := HSC.out.keep hf1
        rw [show (fun j => ((namedK s.R id j : Nat) : Int)) = (fun j => ((namedK s.R s.R.length j : Nat) : Int)) from funext fun j => by rw [k1], show nextK s.R id = nextK s.R s.R.length from funext k2, k3] at hs3
        have HS3' := Lib.hid hs3
        clear hmid k1 k2 k3 hs3
        obtain ⟨D2, hD2⟩ : ∃ D2, D2 = wc.heap.size := ⟨_, rfl⟩
        rw [← hD2] at hlr hD hsz1 ⊢
        obtain ⟨B2, hB2⟩ : ∃ B2, B2 = Wb.heap.size := ⟨_, rfl⟩
        rw [← hB2] at HBN2 hlr ⊢
        obtain ⟨R2, hR2, hlr2⟩ := lp_take hlr
        obtain ⟨P2, hP2⟩ : ∃ P2 : ChP, P2 = ⟨D2 + 1, D2, P.RZ, P.X1, P.X3, P.X4, P.X5, B2, P.g3, P.g5⟩ := ⟨_, rfl⟩
        have hdf3 := HS3'.out.df
        rw [HE4.out.2.1] at hdf3
        have hDn : D < D2 := by
          have h1 := HSB.out.lt P.D (by simp [ChP.fix])
          rw [HE4.out.2.1] at h1
          have := HSZC.out
          omega
        have HDF3 := Lib.hid hdf3
        have HDN := Lib.hid hDn
        have HDO : Hid (w.heap.size ≤ D) := Lib.hid (by have := HSB.out.new P.D (by simp [ChP.fix]); rw [HE4.out.2.1] at this; exact this)
        have HX2D : Hid (X2 ≠ D) := Lib.hid (by
          have h := (ChP.nd HSB.out.nd).2.1.2.1
          rw [HE4.out.2.1, HE4.out.2.2.1] at h
          exact Ne.symm h)
        clear hdf3 hDn
        have HST2 : Hid (ChS P2 w B bs p n s (R2 .ready none) 0 (fun j => (namedK s.R s.R.length j : Nat)) (nextK s.R s.R.length) v4 (startsK s.R s.R.length) W3) := Lib.hid (by
          rw [hP2]
          exact HS3'.out.again (N := B2) (fun i hi => by rw [hB2]; exact HSB.out.lt i hi) (fun i hi => by rw [hB2]; exact (own_lt HSB.out.st hi).2) (by rw [hB2]; exact HSB.out.fr.size) (Nat.le_refl _) (by have := HSZC.out; omega) (by omega) hlr2 hD (hf1.obj HBN2.out (by simp)))
        have HRR2 := Lib.hid hR2
        have e4 : P2.l = D2 + 1 ∧ P2.D = D2 ∧ P2.RZ = X2 ∧ P2.X1 = w.heap.size ∧ P2.X3 = X3 ∧ P2.X4 = X4 ∧ P2.X5 = X5 ∧ P2.Bn = B2 ∧ P2.g3 = g3 ∧ P2.g5 = g5 := by
          obtain ⟨-, -, q1, q2, q3, q4, q5, -, q6, q7⟩ := HE4.out
          subst hP2
          exact ⟨rfl, rfl, q1, q2, q3, q4, q5, rfl, q6, q7⟩
        have HE5 := Lib.hid e4
        clear hP2 e4 hD2 hB2 hlr2 hD hf1 hsz1 hlr HS3' HSC HSB HSZC HBN2
        refine (AllF1_in 4 (D2 + 1) B2 p B W3 s (fun id s' A => s' = s ∧ (∀ i, i < id → usedB s.R i = true → namedK s.R s.R.length i ≤ 1) ∧ ChS P2 w B bs p n s (R2 .ready none) 0 (fun j => (namedK s.R s.R.length j : Nat)) (nextK s.R s.R.length) v4 (startsK s.R s.R.length) A ∧ A.heap[D]? = some (.deferred (some [])))
          (fun A => namedAll s.R = false ∧ ChS P2 w B bs p n s (R2 .done (some .ret)) 101 (fun j => (namedK s.R s.R.length j : Nat)) (nextK s.R s.R.length) v4 (startsK s.R s.R.length) A ∧ A.heap[D]? = some (.deferred (some []))) ?_ ?_ ?_ ?_).mono ?_
        · rintro id s' A ⟨rfl, -, h, -⟩
          refine ⟨⟨bs, h.rf⟩, ?_⟩
          have h2 := cell_of_row _ _ 0 _ _ _ h.bn
          rw [HE5.out.2.2.2.2.2.2.2.1] at h2
          exact h2
        · exact ⟨rfl, fun i hi => absurd hi (by omega), HST2.out, HDF3.out⟩
        · rintro id s' A ⟨rfl, hs, h, hdA⟩ hid hnn
          have hu : usedB s'.R id = false := by unfold usedB; rw [hnn]; rfl
          refine ⟨rfl, fun i hi hu2 => ?_, h, hdA⟩
          by_cases h3 : i = id
          · subst h3; rw [hu] at hu2; cases hu2
          · exact hs i (by omega) hu2
        · rintro id s' d g c A W2 ⟨hss, hsd, hst, hdA⟩ hd hfA hg hown
          have hss' := hss.symm
          subst hss'
          have h2 := hst.keep hfA
          have HDA := Lib.hid (hfA.obj hdA (by simp))
          clear hdA
          have hl2 := h2.lp
          rw [HE5.out.1, hR2] at hl2
          have hidn : id < n := by rw [HN.out]; exact (List.getElem?_eq_some_iff.1 hd).1
          have HUS : Hid (usedB s.R id = true) := Lib.hid (by unfold usedB; rw [List.getD_eq_getElem?_getD, hd]; rfl)
          have HS2 := Lib.hid h2
          have HSD2 := Lib.hid hsd
          clear hst hfA hg hown hd hsd h2 hss HST2
          refine yield_wide hl2 rfl ?_
          have HL2 := Lib.hid hl2
          clear hl2
          gi_wp2_with fail
          refine ⟨HL2.out, ?_⟩
          generalize hWc : World.putObj W2 (D2 + 1) _ = Wc
          have HSB2 := Lib.hid (show ChS P2 w B bs p n s (R2 .busy none) 0 (fun j => (namedK s.R s.R.length j : Nat)) (nextK s.R s.R.length) v4 (startsK s.R s.R.length) Wc by
            have h := HS2.out.putL (o' := R2 .busy none)
            rw [HE5.out.1] at h
            rw [← hWc]
            rw [HRR2.out] at h ⊢
            exact h)
          have HDW : Hid (Wc.heap[D]? = some (.deferred (some []))) := Lib.hid (by rw [← hWc, World.putObj_heap_other (by have := HDN.out; omega)]; exact HDA.out)
          clear hWc HS2 HDA
          have c0 := cell_of_row _ _ 0 _ _ _ HSB2.out.x3
          obtain ⟨c3, q3⟩ := HSB2.out.a3.cell hidn
          rw [HE5.out.2.2.2.2.1, HE5.out.2.2.2.2.2.2.2.2.1] at c0
          rw [HE5.out.2.2.2.2.2.2.2.2.1] at c3 q3
          simp at c0
          obtain ⟨x, hx⟩ : ∃ x, x = namedK s.R s.R.length id := ⟨_, rfl⟩
          rw [← hx] at c3
          have HXX := Lib.hid hx
          clear hx
          have hi0 : (0 : Int) ≤ (id : Int) := by omega
          have hii : (id : Int) < (n : Int) := by omega
          by_cases hx1 : x ≤ 1
          · have hxi : ¬ (1 : Int) < (x : Int) := by omega
            gi_wp2_with fail
            rw [← HRR2.out]
            have hlp := HSB2.out.lp
            have hpl := HSB2.out.putL (o' := R2 .ready none)
            rw [HE5.out.1] at hlp hpl
            refine ⟨hlp, .inl ⟨rfl, fun i hi hu => ?_, hpl, by rw [World.putObj_heap_other (by have := HDN.out; omega)]; exact HDW.out⟩⟩
            by_cases h3 : i = id
            · rw [h3, ← HXX.out]; exact hx1
            · exact HSD2.out i (by omega) hu
          · have hxi : (1 : Int) < (x : Int) := by omega
            have r0 := cell_of_row _ _ 0 _ _ _ HSB2.out.rz
            have r1 := frozen_of_row _ _ 0 _ _ HSB2.out.rz
            rw [HE5.out.2.2.1] at r0 r1
            simp at r0
            gi_wp2_with fail
            rw [← HRR2.out]
            have hse := HSB2.out.setE 101
            rw [HE5.out.2.2.1] at hse
            have hlp := hse.lp
            have hpl := hse.putL (o' := R2 .done (some .ret))
            rw [HE5.out.1] at hlp hpl
            have hXD : X2 ≠ D := by have := HX2D.out; omega
            refine ⟨hlp, .inr ⟨rfl, ?_, hpl, by rw [World.putObj_heap_other (by have := HDN.out; omega)]; exact ((Fr.refl [X2] Wc).setCell (by simp) _).obj HDW.out (by simpa using hXD.symm)⟩⟩
            cases hna : namedAll s.R with
            | false => rfl
            | true =>
              have := namedAll_at hna HUS.out
              rw [← HXX.out] at this
              exact absurd this hx1
        · rintro e W2 ⟨⟨vv2, rfl⟩, (⟨id2, s1, A, ⟨hss, hsd, hst, hdA⟩, hid, hfA⟩ | ⟨hna, hst, hdA⟩)⟩
          · have hss' := hss.symm
            subst hss'
            refine ⟨⟨_, rfl⟩, .inl ?_⟩
            have h2 := hst.keep hfA
            have hl2 := h2.lp
            rw [HE5.out.1, hR2] at hl2
            refine ⟨hl2, ?_⟩
            generalize hWb : World.putObj W2 (D2 + 1) _ = Wd
            have HSB := Lib.hid (show ChS P2 w B bs p n s (R2 .exhausted none) 0 (fun j => (namedK s.R s.R.length j : Nat)) (nextK s.R s.R.length) v4 (startsK s.R s.R.length) Wd by
              have h := h2.putL (o' := R2 .exhausted none)
              rw [HE5.out.1] at h
              rw [← hWb]
              rw [HRR2.out] at h ⊢
              exact h)
            have HSA : Hid (soundAll s.R = true) := Lib.hid (List.all_eq_true.2 fun i hi => by
              rw [List.mem_range] at hi
              cases hu : usedB s.R i with
              | false => rfl
              | true => rw [HSD.out i (by have := HID.out; omega) hu]; rfl)
            have HNA : Hid (namedAll s.R = true) := Lib.hid (List.all_eq_true.2 fun i hi => by
              rw [List.mem_range] at hi
              cases hu : usedB s.R i with
              | false => rfl
              | true => rw [decide_eq_true (hsd i (by omega) hu)]; rfl)
            have HDW : Hid (Wd.heap[D]? = some (.deferred (some []))) := Lib.hid (by rw [← hWb, World.putObj_heap_other (by have := HDN.out; omega)]; exact hfA.obj hdA (by simp))
            clear hWb hl2 h2 hfA hst hsd hid hss HST2 hR2 hdA
            obtain ⟨L, hL⟩ : ∃ L, L = startsK s.R s.R.length := ⟨_, rfl⟩
            have hll : L.length ≤ 65536 := by have := startsK_len s.R s.R.length; rw [hL]; have := HN.out; omega
            have HT3 : Hid (sumC s.R L L.length = totalN s.R s.R.length) := Lib.hid (by rw [hL]; exact sumC_all s.R)
            have HSTT : Hid (∀ x ∈ L, usedB s.R x = true ∧ stB s.R x = true ∧ x < s.R.length) := Lib.hid (fun x hx => startsK_mem (by rw [hL] at hx; exact hx))
            have hcst := HSB.out.st
            rw [← hL] at hcst
            obtain ⟨a4, c4, hv4⟩ := own_slR hcst
            subst hv4
            have HCST := Lib.hid hcst
            have v1 := cell_of_row _ _ 0 _ _ _ HSB.out.x1
            have v4c := cell_of_row _ _ 0 _ _ _ HSB.out.x4
            have v5 := cell_of_row _ _ 0 _ _ _ HSB.out.x5
            have v2 := cell_of_row _ _ 0 _ _ _ HSB.out.rz
            have v2f := frozen_of_row _ _ 0 _ _ HSB.out.rz
            rw [HE5.out.2.2.2.1] at v1
            rw [HE5.out.2.2.2.2.2.1] at v4c
            rw [HE5.out.2.2.2.2.2.2.1, HE5.out.2.2.2.2.2.2.2.2.2] at v5
            rw [HE5.out.2.2.1] at v2 v2f
            simp at v1 v4c v5 v2
            have HLV := Lib.hid (Live_F B bs Wd p s HSB.out.rf)
            clear hL hcst
            go_wp2_with fail
            go_loopw [10, 72] (fun q10 q72 wr => ∃ i t : Nat, i ≤ L.length ∧ t = sumC s.R L i ∧ q10 = .int .i64 t ∧ q72 = .int .i64 i ∧ Wd = wr) (fun _ q _ => L.length - (intOf q).toNat)
            case atStart => exact ⟨0, 0, by omega, by unfold sumC; simp, rfl, rfl, rfl⟩
            case round =>
              obtain ⟨i, t, hi, ht, rfl, rfl, rfl⟩ := hrel
              have ht6 : t ≤ 4295032832 := by rw [ht]; exact sumC_le s.R L i HOK.out.len hll
              have HTT := Lib.hid ht
              clear ht
              by_cases hlt : i < L.length
              · have hii : (i : Int) < (L.length : Int) := by omega
                have hi0 : (0 : Int) ≤ (i : Int) := by omega
                obtain ⟨g, c, e, -, -, hc⟩ := own_intC HCST.out hlt
                simp only [Value.slice.injEq] at e
                obtain ⟨rfl, -, -⟩ := e
                obtain ⟨x, hx⟩ : ∃ x, x = L.getD i 0 := ⟨_, rfl⟩
                rw [← hx] at hc
                have HSX := Lib.hid (HSTT.out x (by rw [hx, List.getD_eq_getElem?_getD, List.getElem?_eq_getElem hlt]; exact List.getElem_mem hlt))
                have HXX := Lib.hid hx
                clear hx
                go_wp2_with fail
                go_loopw [10, 12] (fun q10 q12 wr => ∃ (vs : List Nat) (c : Int) (u : Nat), u = t + vs.length ∧ q10 = .int .i64 u ∧ q12 = .int .i64 c ∧ Wd = wr ∧ PathR s.R x vs c ∧ vs.Nodup ∧ (∀ u ∈ vs, u < s.R.length ∧ usedB s.R u = true) ∧ (c = -1 ∨ usedR s.R c = true) ∧ vs.length + chainN s.R (s.R.length + 1 - vs.length) c = chainN s.R (s.R.length + 1) (x : Nat)) (fun q _ _ => t + n + 1 - (intOf q).toNat)
                case atStart => exact ⟨[], x, t, rfl, rfl, rfl, rfl, rfl, List.nodup_nil, fun u hu => absurd hu (by simp), .inr (by rw [← usedB_nat]; exact HSX.out.1), by simp⟩
                case round =>
                  obtain ⟨vs, c, u, hu, rfl, rfl, rfl, hpa, hnd, hvu, hcc, hsum⟩ := hrel
                  have HPA := Lib.hid hpa
                  have HND := Lib.hid hnd
                  have HVU := Lib.hid hvu
                  have HSUM := Lib.hid hsum
                  have hvl : vs.length ≤ n := by rw [HN.out]; exact nodup_le _ hnd fun i hi => (hvu i hi).1
                  have HU0 := Lib.hid hu
                  have hu6 : u ≤ 4296000000 := by omega
                  have HVL := Lib.hid hvl
                  clear hpa hnd hvu hsum hu hvl
                  by_cases hc1 : c = -1
                  · subst hc1
                    have e1 : IntKind.i64.wrap ((i : Int) + 1) = (i : Int) + 1 := IntWalk.i64_in _ (by omega)
                    go_wp2_with fail
                    go_roundw
                    case rel =>
                      refine ⟨i + 1, u, by omega, ?_, rfl, by go_num, by first | rfl | trivial⟩
                      rw [sumC_succ s.R hlt, ← HTT.out, ← HXX.out, ← HSUM.out, chainN_end, HU0.out]
                      omega
                    case measure => simp [intOf] <;> omega
                  · have husd := hcc.resolve_left hc1
                    obtain ⟨kk0, kk1, -⟩ := usedR_lt husd
                    obtain ⟨k, rfl⟩ : ∃ k : Nat, c = k := ⟨c.toNat, by omega⟩
                    have hub : usedB s.R k = true := by rw [usedB_nat]; exact husd
                    have hkl : k < s.R.length := by omega
                    have hkn : k < n := by rw [HN.out]; exact hkl
                    obtain ⟨c5, -⟩ := HSB.out.a5.cell hkn
                    rw [HE5.out.2.2.2.2.2.2.2.2.2, show nextK s.R s.R.length k = nxtR s.R k by unfold nextK; rw [decide_eq_true hkl, hub]; rfl] at c5
                    obtain ⟨nx, hnx⟩ : ∃ nx, nx = nxtR s.R k := ⟨_, rfl⟩
                    rw [← hnx] at c5
                    have HNX := Lib.hid hnx
                    have HUB := Lib.hid hub
                    have HKL := Lib.hid hkl
                    have hk0 : (0 : Int) ≤ (k : Int) := by omega
                    have hki : (k : Int) < (n : Int) := by omega
                    have hkm : ((k : Int) != -1) = true := by rw [bne_iff_ne]; exact hc1
                    have e1 : IntKind.i64.wrap ((u : Int) + 1) = (u : Int) + 1 := IntWalk.i64_in _ (by omega)
                    clear hc1 hcc husd kk0 kk1 hnx hub hkl
                    go_wp2_with fail
                    go_roundw
                    case rel =>
                      have hfr : k ∉ vs := HPA.out.fresh HND.out HVU.out HSX.out (namedAll_at HNA.out HUB.out)
                      have hnn : (k :: vs).Nodup := List.nodup_cons.2 ⟨hfr, HND.out⟩
                      have hv2 : ∀ u ∈ k :: vs, u < s.R.length ∧ usedB s.R u = true := fun u hu => by
                        rcases List.mem_cons.1 hu with rfl | hu
                        · exact ⟨HKL.out, HUB.out⟩
                        · exact HVU.out u hu
                      have hl2 := nodup_le _ hnn fun i hi => (hv2 i hi).1
                      rw [List.length_cons] at hl2
                      refine ⟨k :: vs, nx, u + 1, by rw [List.length_cons, HU0.out]; omega, by go_num, rfl, by first | rfl | trivial, ⟨HPA.out, HNX.out.symm⟩, hnn, hv2, ?_, ?_⟩
                      · rw [HNX.out]
                        exact sndR_next (soundAll_at HSA.out HUB.out)
                      · rw [← HSUM.out, List.length_cons, show s.R.length + 1 - vs.length = (s.R.length - vs.length) + 1 by omega, chainN_on, HNX.out, show s.R.length + 1 - (vs.length + 1) = s.R.length - vs.length by omega]
                        omega
                    case measure => have := HVL.out; have := HU0.out; simp [intOf] <;> omega
              · obtain rfl : i = L.length := by omega
                have hii : ¬ (L.length : Int) < (L.length : Int) := by omega
                obtain ⟨lv, hlv⟩ : ∃ lv, lv = liveN s.R := ⟨_, rfl⟩
                rw [← hlv] at HLV
                have HLL := Lib.hid hlv
                clear hlv
                by_cases hel : t = lv
                · have heq : ((t : Int) != (lv : Int)) = false := by rw [hel]; simp
                  have HEL := Lib.hid hel
                  clear hel
                  go_wp2_with fail
                  refine HLV.out.mono ?_
                  rintro e w' ⟨rfl, rfl⟩
                  go_wp2_with fail
                  have hse := HSB.out.setE 0
                  rw [HE5.out.2.2.1] at hse
                  have hdw := ((Fr.refl [X2] Wd).setCell (p := ⟨X2, 0, none⟩) (by simp) (.int .i64 0)).obj HDW.out (by simpa using HX2D.out.symm)
                  generalize Wd.setCell ⟨X2, 0, none⟩ (.int .i64 0) = We at hse hdw ⊢
                  have hne : X2 ≠ D2 := by
                    have h := (ChP.nd hse.nd).2.1.2.1
                    rw [HE5.out.2.1, HE5.out.2.2.1] at h
                    exact Ne.symm h
                  have hdf := hse.df
                  rw [HE5.out.2.1] at hdf
                  have hrz := hse.rz
                  rw [HE5.out.2.2.1] at hrz
                  have hDw : w.heap.size ≤ D2 := by have := hse.new P2.D (by simp [ChP.fix]); rw [HE5.out.2.1] at this; exact this
                  have hDw1 : w.heap.size ≤ D := HDO.out
                  refine mark_ret2 hdf hdw (by have := HDN.out; omega) (results_e1 rfl _ _ ⟨X2, 0, none⟩ _ rfl (load_e (by rw [World.putObj_heap_other HX2D.out, World.putObj_heap_other hne]; exact hrz))) ?_
                  refine ⟨?_, (hse.fr.putObj (by omega) _).putObj (by omega) _⟩
                  unfold checkE
                  rw [if_neg (by have := H32.out; omega), if_neg (by rw [HSA.out]; decide), if_neg (by rw [HNA.out]; decide), if_neg (by rw [← HT3.out, ← HTT.out, ← HLL.out]; have := HEL.out; omega)]
                · have heq : ((t : Int) != (lv : Int)) = true := by rw [bne_iff_ne]; omega
                  have HEL := Lib.hid hel
                  clear hel
                  go_wp2_with fail
                  refine HLV.out.mono ?_
                  rintro e w' ⟨rfl, rfl⟩
                  go_wp2_with fail
                  have hse := HSB.out.setE 101
                  rw [HE5.out.2.2.1] at hse
                  have hdw := ((Fr.refl [X2] Wd).setCell (p := ⟨X2, 0, none⟩) (by simp) (.int .i64 101)).obj HDW.out (by simpa using HX2D.out.symm)
                  generalize Wd.setCell ⟨X2, 0, none⟩ (.int .i64 101) = We at hse hdw ⊢
                  have hne : X2 ≠ D2 := by
                    have h := (ChP.nd hse.nd).2.1.2.1
                    rw [HE5.out.2.1, HE5.out.2.2.1] at h
                    exact Ne.symm h
                  have hdf := hse.df
                  rw [HE5.out.2.1] at hdf
                  have hrz := hse.rz
                  rw [HE5.out.2.2.1] at hrz
                  have hDw : w.heap.size ≤ D2 := by have := hse.new P2.D (by simp [ChP.fix]); rw [HE5.out.2.1] at this; exact this
                  have hDw1 : w.heap.size ≤ D := HDO.out
                  refine mark_ret2 hdf hdw (by have := HDN.out; omega) (results_e1 rfl _ _ ⟨X2, 0, none⟩ _ rfl (load_e (by rw [World.putObj_heap_other HX2D.out, World.putObj_heap_other hne]; exact hrz))) ?_
                  refine ⟨?_, (hse.fr.putObj (by omega) _).putObj (by omega) _⟩
                  unfold checkE
                  rw [if_neg (by have := H32.out; omega), if_neg (by rw [HSA.out]; decide), if_neg (by rw [HNA.out]; decide), if_pos (by rw [← HT3.out, ← HTT.out, ← HLL.out]; exact HEL.out)]
          · refine ⟨⟨_, rfl⟩, .inr ?_⟩
            have hl2 := hst.lp
            rw [HE5.out.1, hR2] at hl2
            refine ⟨.ret, hl2, ?_⟩
            generalize hWb : World.putObj W2 (D2 + 1) _ = Wd
            have HSB := Lib.hid (show ChS P2 w B bs p n s (R2 .exhausted (some .ret)) 101 (fun j => (namedK s.R s.R.length j : Nat)) (nextK s.R s.R.length) v4 (startsK s.R s.R.length) Wd by
              have h := hst.putL (o' := R2 .exhausted (some .ret))
              rw [HE5.out.1] at h
              rw [← hWb]
              rw [HRR2.out] at h ⊢
              exact h)
            have HSA : Hid (soundAll s.R = true) := Lib.hid (List.all_eq_true.2 fun i hi => by
              rw [List.mem_range] at hi
              cases hu : usedB s.R i with
              | false => rfl
              | true => rw [HSD.out i (by have := HID.out; omega) hu]; rfl)
            have HNA := Lib.hid hna
            have HDW : Hid (Wd.heap[D]? = some (.deferred (some []))) := Lib.hid (by rw [← hWb, World.putObj_heap_other (by have := HDN.out; omega)]; exact hdA)
            clear hWb hl2 hst hna HST2 hR2 hdA
            gi_wp2_with fail
            have hne : X2 ≠ D2 := by
              have h := (ChP.nd HSB.out.nd).2.1.2.1
              rw [HE5.out.2.1, HE5.out.2.2.1] at h
              exact Ne.symm h
            have hdf := HSB.out.df
            rw [HE5.out.2.1] at hdf
            have hrz := HSB.out.rz
            rw [HE5.out.2.2.1] at hrz
            have hDw : w.heap.size ≤ D2 := by have := HSB.out.new P2.D (by simp [ChP.fix]); rw [HE5.out.2.1] at this; exact this
            have hDw1 : w.heap.size ≤ D := HDO.out
            refine mark_ret2 hdf HDW.out (by have := HDN.out; omega) (results_e1 rfl _ _ ⟨X2, 0, none⟩ _ rfl (load_e (by rw [World.putObj_heap_other HX2D.out, World.putObj_heap_other hne]; exact hrz))) ?_
            refine ⟨?_, (HSB.out.fr.putObj (by omega) _).putObj (by omega) _⟩
            unfold checkE
            rw [if_neg (by have := H32.out; omega), if_neg (by rw [HSA.out]; decide), if_pos HNA.out]
      · refine ⟨⟨_, rfl⟩, .inr ?_⟩
        have hl2 := hst.lp
        rw [HE4.out.1, hR] at hl2
        refine ⟨.ret, hl2, ?_⟩
        generalize hWb : World.putObj W2 (D + 1) _ = Wb
        have HSB := Lib.hid (show ChS P w B bs p n s (R .exhausted (some .ret)) 100 f3 f5 v4 L Wb by
          have h := hst.putL (o' := R .exhausted (some .ret))
          rw [HE4.out.1] at h
          rw [← hWb]
          rw [HRR.out] at h ⊢
          exact h)
        have HSA := Lib.hid hsa
        have H32 := Lib.hid h32
        clear hWb hl2 hst hsa HST h32 hR
        gi_wp2_with fail
        have hne : X2 ≠ D := by
          have h := (ChP.nd HSB.out.nd).2.1.2.1
          rw [HE4.out.2.1, HE4.out.2.2.1] at h
          exact Ne.symm h
        have hdf := HSB.out.df
        rw [HE4.out.2.1] at hdf
        have hrz := HSB.out.rz
        rw [HE4.out.2.2.1] at hrz
        have hDw : w.heap.size ≤ D := by have := HSB.out.new P.D (by simp [ChP.fix]); rw [HE4.out.2.1] at this; exact this
        refine mark_ret hdf (results_e1 rfl _ _ ⟨X2, 0, none⟩ _ rfl (load_e (by rw [World.putObj_heap_other hne]; exact hrz))) ?_
        refine ⟨?_, HSB.out.fr.putObj (by omega) _⟩
        unfold checkE
        rw [if_neg (by have := H32.out; omega), if_pos HSA.out]
  · have h32i : ((s.sz : Int) != 32) = true := by rw [bne_iff_ne]; omega
    have HE : Hid (checkE s = 4) := Lib.hid (by unfold checkE; rw [if_pos h32])
    go_wp2_with fail
    refine HSI.out.mono ?_
    rintro e w' ⟨rfl, rfl⟩
    go_wp2_with fail
    have hz : (wz.setCell ⟨w.heap.size + 1, 0, none⟩ (.int .i64 4)).heap[w.heap.size + 1]? = some (.cells #[.int .i64 4] 28) := by rw [heap_setCell_same _ _ 0 _ _ _ HZ2.out]; rfl
    refine no_mark_ret (results_e1 rfl _ _ ⟨w.heap.size + 1, 0, none⟩ _ rfl (load_e hz)) ?_
    exact ⟨by rw [HE.out], HFZ.out.setCell (by simp) _⟩
end Go.Proofs.YtkcipbjikimlfaaDoor

/- Blocks: speaks: a run that the document fixes. -/
namespace Go.Proofs.YtkcipbjikimlfaaDoor
open Go.RowKit
attribute [local go_sem ↓] Go.wp_at_zero Go.wp_at_succ
def sqL : List UInt8 := lb [97, 98, 99, 100, 101, 102, 103, 104, 105, 106, 107, 108, 109, 110, 111, 112, 113, 114, 115, 116, 117, 118, 119, 120, 121, 122, 49, 50, 51, 52]
def sq0 : RFS := ⟨9, 1, 32, 0, []⟩
def sqR1 : Recs := stR [] sqL
def sqR2 : Recs := stR sqR1 []
theorem sqL_len : sqL.length = 30 := rfl
theorem sq_1 : stE sq0 30 = 0 ∧ stI sq0 30 = 0 ∧ stS sq0 sqL = sqR1 := by
  have h : stE sq0 30 = 0 := by decide +kernel
  refine ⟨h, by decide +kernel, ?_⟩
  unfold stS
  rw [sqL_len, if_pos h]
  rfl
theorem sq_2 {t : RFS} (h : Like sq0 t sqR1) : stE t 0 = 0 ∧ stI t 0 = 2 ∧ stS t [] = sqR2 := by
  have hs : t.sz = 32 := h.sz
  have h0 : stE t 0 = 0 := by
    unfold stE
    rw [hs, h.R]
    decide +kernel
  refine ⟨h0, ?_, ?_⟩
  · unfold stI
    rw [if_pos h0, h.R]
    decide +kernel
  · unfold stS
    rw [List.length_nil, if_pos h0, h.R]
    rfl
theorem sq_3 {t : RFS} (hs : t.sz = 32) (hR : t.R = sqR2) : walkE t 0 = ([0, 1], 0) ∧ loadE t 0 = sqL ∧ checkE t = 0 ∧ liveN t.R = 3 := by
  have h1 : walkE t 0 = ([0, 1], 0) := by
    unfold walkE
    rw [hs, hR]
    decide +kernel
  refine ⟨h1, ?_, ?_, ?_⟩
  · unfold loadE
    rw [h1, hR]
    decide +kernel
  · unfold checkE
    rw [hs, hR]
    decide +kernel
  · rw [hR]
    decide +kernel
set_option maxRecDepth 100000 in
set_option maxHeartbeats 3200000 in
theorem speaks10 (w : World) : Calls Tryd.prog 8 #[] w fun e w' => e = .returned (.bool true) ∧ Fr [] w w' := by
  have kc := fun (w : World) (C : Array Value) (n c : Nat) => Lib.run_convert_bytes_const (P := Tryd.prog) w 22 5 C n c Tryd.underlying22 Tryd.underlying5
  go_enter Tryd.func8, Tryd.ntmps8
  go_wp2_with fail
  refine (New_ok 9 1 32 w (by decide) (by decide) (by decide) (by decide)).mono ?_
  rintro e w1 ⟨rfl, hr, hf⟩
  obtain ⟨p, hp⟩ : ∃ p, p = w.heap.size := ⟨_, rfl⟩
  obtain ⟨bs, hbs⟩ : ∃ bs, bs = [w.heap.size] := ⟨_, rfl⟩
  have hr1 : RF w.heap.size bs w1 p sq0 := by rw [hbs, hp]; exact hr
  rw [← hp]
  have HR1 := Lib.hid hr1
  have HF1 := Lib.hid hf
  clear hr hf hr1 hp hbs
  go_wp2_with fail
  generalize hW : World.alloc w1 _ = W
  have hfW : Fr [] w1 W := by rw [← hW]; exact (Fr.refl _ _).alloc _
  have hbW : Bytes W (some ⟨w1.heap.size, 0, none⟩) sqL := by rw [← hW]; exact Bytes.lit [97, 98, 99, 100, 101, 102, 103, 104, 105, 106, 107, 108, 109, 110, 111, 112, 113, 114, 115, 116, 117, 118, 119, 120, 121, 122, 49, 50, 51, 52] rfl rfl rfl
  have HS := Lib.hid (Store_F w.heap.size bs W p sq0 (some ⟨w1.heap.size, 0, none⟩) 30 sqL (HR1.out.keep hfW) (by rw [sqL_len]; decide) (by rw [sqL_len]; decide) (fun h => by cases h) hbW (fun ad e => by cases e; exact fun hm => absurd (HR1.out.lt _ hm).2 (Nat.lt_irrefl _)))
  have HFW := Lib.hid hfW
  rw [sqL_len, sq_1.1, sq_1.2.1, sq_1.2.2] at HS
  clear hW hfW hbW kc
  refine HS.out.mono ?_
  rintro e w2 ⟨rfl, bs2, t, hr2, hl2, hs2⟩
  have HR2 := Lib.hid hr2
  have HL2 := Lib.hid hl2
  have HF2 := Lib.hid ((HF1.out.trans HFW.out).next (hs2.1.mono fun k hk _ => hk) (fun i hi hlt => by have := (HR1.out.lt i hi).1; omega))
  clear HS hr2 hl2 hs2
  go_wp2_with fail
  have HS := Lib.hid (Store_F w.heap.size bs2 w2 p t none 0 [] HR2.out (by decide) (by decide) (fun h => rfl) (Bytes.nil _ _) (fun ad e => by cases e))
  rw [List.length_nil, (sq_2 HL2.out).1, (sq_2 HL2.out).2.1, (sq_2 HL2.out).2.2] at HS
  refine HS.out.mono ?_
  rintro e w3 ⟨rfl, bs3, t3, hr3, hl3, hs3⟩
  have HR3 := Lib.hid hr3
  have HF3 := Lib.hid (HF2.out.next (hs3.1.mono fun k hk _ => hk) (fun i hi hlt => by have := (HR2.out.lt i hi).1; omega))
  have h3 := sq_3 (hl3.sz.trans HL2.out.sz) hl3.R
  have HL := Lib.hid (Load_F w.heap.size bs3 w3 p t3 0 HR3.out)
  rw [h3.1, h3.2.1] at HL
  have HQ := Lib.hid h3
  clear HS hr3 hl3 hs3 h3
  go_wp2_with fail
  refine HL.out.mono ?_
  rintro e w4 ⟨v, rfl, hg⟩
  obtain ⟨gv, cv, rfl, -, -, hcv⟩ := hg.addr (by decide)
  have c29 := hg.1.cells (g := gv) rfl 29 (B8 (UInt8.ofNat 52)) rfl
  rw [addO, Nat.zero_add, show B8 (UInt8.ofNat 52) = .int .u8 52 from by show Value.int .u8 (I8 (UInt8.ofNat 52)) = _; rw [I8_of_nat 52 (by decide)]; rfl] at c29
  have HF4 := Lib.hid (HF3.out.trans hg.2)
  have HR4 := Lib.hid (HR3.out.keep hg.2)
  have HC := Lib.hid (Check_F w.heap.size bs3 w4 p t3 HR4.out)
  rw [HQ.out.2.2.1] at HC
  rw [sqL_len] at hcv ⊢
  clear HL hg hcv
  go_wp2_with fail
  refine HC.out.mono ?_
  rintro e w5 ⟨rfl, hf5⟩
  have HF5 := Lib.hid (HF4.out.trans hf5)
  have HV := Lib.hid (Live_F w.heap.size bs3 w5 p t3 (HR4.out.keep hf5))
  rw [HQ.out.2.2.2] at HV
  clear HC hf5 c29
  go_wp2_with fail
  refine HV.out.mono ?_
  rintro e w' ⟨rfl, rfl⟩
  go_wp2_with fail
  go_ret
  exact ⟨rfl, HF5.out⟩
end Go.Proofs.YtkcipbjikimlfaaDoor
