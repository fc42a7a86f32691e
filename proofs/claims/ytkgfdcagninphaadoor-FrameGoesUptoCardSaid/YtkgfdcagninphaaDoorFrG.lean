/- Frames: the walk of Split. -/
import Derived.Test.YtkgfdcagninphaaDoorFrF
namespace Go.Proofs.YtkgfdcagninphaaDoor
open Go.RowKit Go.Shelf
attribute [local go_sem] Oper.semAt_some
/-- what Split gives -/
def SplG (w w' : World) (e : Ending) (L : List UInt8) : Prop :=
  ∃ v X, e = .returned (.tuple #[v, .int .i64 (spl L).2]) ∧ FrL w' w.heap.size v X ∧ X.map FI.fr = (spl L).1 ∧ Fr [] w w'
theorem own_by {w : World} {B n c e : Nat} {a : Option Addr} {l : List UInt8} (h : w.ownsRow B e 1 (.slice a n c) l.length (l.map B8)) : Bytes w a l ∧ l.length ≤ c := by
  obtain ⟨a', c', e1, h1, h2, _⟩ := Bytes.of_own h
  simp only [Value.slice.injEq] at e1
  obtain ⟨rfl, _, rfl⟩ := e1
  exact ⟨h1, h2⟩
theorem lp_take {W : World} {l : Nat} {fn : FuncId} {T : Array Value} {ps : Array Tmp} {asg bd : Code} {D : Nat} {s : LoopState} {p : Option Code} (h : W.heap[l]? = some (lpR fn T ps asg bd D s p)) : ∃ R : LoopState → Option Code → Obj, R = lpR fn T ps asg bd D ∧ W.heap[l]? = some (R s p) := ⟨_, rfl, h⟩
theorem put_take {W0 Wb : World} {l : Nat} {o : Obj} (h : W0.putObj l o = Wb) (hl : l < W0.heap.size) : Wb.heap[l]? = some o := by rw [← h]; exact World.putObj_heap_same hl
theorem fr_news {w : World} {b : Nat} {x y : Value} {T : Nat} (h : w.heap[b]? = some (.cells #[x, y] T)) : ∀ a, some (⟨b, 0, none⟩ : Addr) = some a → ∀ (j : Nat) (u : Value), [x, y][j]? = some u → w.cell? (a.add j) = some u := by
  intro a ha j u hj
  cases ha
  rw [show (⟨b, 0, none⟩ : Addr).add j = ⟨b, j, none⟩ by by_cases h0 : j = 0 <;> simp [Addr.add, h0]]
  rw [cell_of_row w b j _ _ _ h]
  simpa using hj
theorem results_cc {P : Program} {fn : Func} {p q : Tmp} {ty t2 : TypeId} (h : fn.results = #[.cell p ty, .cell q t2]) (tmps : Array Value) (w : World) (a b : Addr) (x y : Value)
    (hp : tmps.getD p undef = .pointer (some a)) (hq : tmps.getD q undef = .pointer (some b)) (h1 : (loadVar ty a).run P w = .ok x w) (h2 : (loadVar t2 b).run P w = .ok y w) :
    (results fn tmps).run P w = .ok (.tuple #[x, y]) w := by
  have key : (results fn tmps).run P w = ((asAddr (tmps.getD p undef)).run P w).andThen fun a w₁ => ((loadVar ty a).run P w₁).andThen fun x w₂ => ((asAddr (tmps.getD q undef)).run P w₂).andThen fun b w₃ => ((loadVar t2 b).run P w₃).andThen fun y w₄ => .ok (.tuple #[x, y]) w₄ := by
    simp only [results, h]
    simp [Sem.run_bind, Result.andThen]
  rw [key, hp, hq]
  simp [asAddr, h1, h2]
theorem load_sl {w : World} {b : Nat} {v : Value} {T : Nat} (h : w.heap[b]? = some (.cells #[v] T)) : (loadVar 35 ⟨b, 0, none⟩).run Tryd.prog w = .ok v w := by
  have hc := cell_of_row w b 0 _ _ _ h
  simp at hc
  simp [loadVar, go_sem, hc]
theorem load_en {w : World} {b : Nat} {v : Value} {T : Nat} (h : w.heap[b]? = some (.cells #[v] T)) : (loadVar 27 ⟨b, 0, none⟩).run Tryd.prog w = .ok v w := by
  have hc := cell_of_row w b 0 _ _ _ h
  simp at hc
  simp [loadVar, go_sem, hc]
/-- what holds at the loop of Split between two rounds -/
def SplJ (R : LoopState → Option Code → Obj) (l D B : Nat) (ga : Option Addr) (gc : Nat) (L : List UInt8) (w : World) (F : List (UInt8 × List UInt8)) (A : World) : Prop :=
  A.heap[l]? = some (R .ready none) ∧ A.heap[D]? = some (.deferred (some [])) ∧ A.heap[B + 1]? = some (.cells #[.int .i64 0] 27) ∧ A.ownsRow (B + 3) 5 1 (.slice ga L.length gc) L.length (L.map B8) ∧ Fr [] w A ∧
    ∃ v X, A.heap[B]? = some (.cells #[v] 35) ∧ FrL A B v X ∧ X.map FI.fr = F
/-- what holds where the loop was left -/
def SplE (R : LoopState → Option Code → Obj) (l D B : Nat) (L : List UInt8) (w : World) (A : World) : Prop :=
  A.heap[l]? = some (R .done (some .ret)) ∧ A.heap[D]? = some (.deferred (some [])) ∧ A.heap[B]? = some (.cells #[.slice none 0 0] 35) ∧ A.heap[B + 1]? = some (.cells #[.int .i64 (erF L)] 27) ∧ Fr [] w A
theorem own_two {w : World} {B C e e' s s' n n' : Nat} {v v' : Value} {xs xs' : List Value} (h : w.ownsRow B e s v n xs) (h' : w.ownsRow C e' s' v' n' xs') (hne : e ≠ e') : ∀ g, v.ownBlock = some g → v'.ownBlock ≠ some g := by
  intro g hg
  rcases h.2 with ⟨rfl, _⟩ | ⟨g', cap, cur, rfl, _, hh, _⟩
  · simp [Value.ownBlock] at hg
  · simp only [Value.ownBlock, Option.some.injEq] at hg
    subst hg
    exact own_ty h' hh hne
theorem FrL.lt {w : World} {B : Nat} {v : Value} {X : List FI} (h : FrL w B v X) : (∀ g, v.ownBlock = some g → B ≤ g ∧ g < w.heap.size) ∧ (∀ y ∈ X, ∀ g, y.v.ownBlock = some g → B ≤ g ∧ g < w.heap.size) :=
  ⟨fun _ hg => own_lt h.row hg, fun y hy _ hg => own_lt (h.dat y hy) hg⟩
theorem FrL.appN {w w' : World} {B N : Nat} {v v' : Value} {X : List FI} {x : FI} (h : FrL w B v X) (hva : ∀ g, v.ownBlock = some g → g < N) (hX : ∀ y ∈ X, ∀ g, y.v.ownBlock = some g → g < N) (hx : w.ownsRow N 5 1 x.v x.d.length (x.d.map B8)) (hB : B ≤ N) (ha : App w w' B 25 2 v v' X.length 1 (fiCells X) [.int .i64 (I8 x.t), x.v]) : FrL w' B v' (X ++ [x]) := by
  have hxa : ∀ g, x.v.ownBlock = some g → N ≤ g ∧ g < w.heap.size := fun g hg => own_lt hx hg
  have hoff : ∀ g, x.v.ownBlock = some g → v.ownBlock ≠ some g := fun g hg e => by have := hva g e; have := hxa g hg; omega
  have hnew : ∀ y : FI, (∀ g, y.v.ownBlock = some g → g < w.heap.size) → (∀ g, y.v.ownBlock = some g → v.ownBlock ≠ some g) → ∀ g, y.v.ownBlock = some g → v'.ownBlock ≠ some g := by
    intro y h1 h2 g hg e
    rcases ha.blk with hb | ⟨g', hb, hlt⟩
    · exact h2 g hg (hb.symm.trans e)
    · rw [hb] at e
      have := Option.some.inj e
      have := h1 g hg
      omega
  refine ⟨?_, fun y hy => ?_, ?_, fun y hy => ?_⟩
  · rw [fiCells_snoc, List.length_append]
    exact ha.own
  · rcases List.mem_append.1 hy with hy | hy
    · exact own_fr (h.dat y hy) (app_fr2 ha) (fun g hg hm => h.off y hy g hg (by simpa using hm))
    · obtain rfl : y = x := by simpa using hy
      exact own_base (own_fr hx (app_fr2 ha) (fun g hg hm => hoff g hg (by simpa using hm))) hB
  · rw [List.pairwise_append]
    refine ⟨h.dis, by simp, fun y hy z hz => ?_⟩
    obtain rfl : z = x := by simpa using hz
    intro g hg e
    have h1 := hX y hy g hg
    have h2 := (hxa g e).1
    omega
  · rcases List.mem_append.1 hy with hy | hy
    · exact hnew y (fun g hg => (own_lt (h.dat y hy) hg).2) (fun g hg => h.off y hy g hg)
    · obtain rfl : y = x := by simpa using hy
      exact hnew y (fun g hg => (hxa g hg).2) hoff
set_option maxRecDepth 100000 in
set_option maxHeartbeats 3200000 in
theorem Split_any (ad : Option Addr) (c : Nat) (L : List UInt8) (w : World) (hl : L.length ≤ 39582418590000) (hc : L.length ≤ c) (hno : ad = none → c = 0) (hb : Bytes w ad L) (hn : Nib w) :
    Calls Tryd.prog 17 #[.slice ad L.length c] w fun e w' => SplG w w' e L := by
  have HB := Lib.hid hb
  have HN := Lib.hid hn
  have HNO := Lib.hid hno
  clear hb hn hno
  refine (callsIn_wide (n := 5)).1 ?_
  refine callsIn_of_wp_marks Tryd.func17 rfl trivial ?_ rfl
  simp only [Tryd.ntmps17, List.size_toArray, List.length_cons, List.length_nil, Nat.reduceAdd, Nat.reduceSub, Array.replicate_succ, Array.replicate_zero, List.push_toArray, List.append_toArray, List.nil_append, List.cons_append]
  gi_wp2_with fail
  refine ⟨trivial, ?_⟩
  obtain ⟨wz, hwz⟩ : ∃ wz, wz = (w.alloc (.cells #[.slice none 0 0] 35)).alloc (.cells #[.int .i64 0] 27) := ⟨_, rfl⟩
  rw [← hwz]
  have HFZ := Lib.hid (show Fr [] w wz by rw [hwz]; exact ((Fr.refl _ _).alloc _).alloc _)
  have HZ1 := Lib.hid (show wz.heap[w.heap.size]? = some (.cells #[.slice none 0 0] 35) by rw [hwz]; exact ((Fr.refl [] _).alloc _).obj (heap_alloc_new w _) (by simp))
  have HZ2 := Lib.hid (show wz.heap[w.heap.size + 1]? = some (.cells #[.int .i64 0] 27) by
    rw [hwz]
    have := heap_alloc_new (w.alloc (.cells #[.slice none 0 0] 35)) (.cells #[.int .i64 0] 27)
    rwa [World.size_alloc] at this)
  have HSZ := Lib.hid (show wz.heap.size = w.heap.size + 2 by rw [hwz]; simp)
  clear hwz
  refine (callsIn_wide.2 (All_any ad c L wz (by omega) HNO.out (HB.out.keep HFZ.out))).mono ?_
  rintro e w1 ⟨ga, gc, rfl, hrow, hown, hf⟩
  have HROW := Lib.hid hrow
  have HOWN := Lib.hid hown
  have HF1 := Lib.hid hf
  clear hrow hown hf
  gi_wp2_with fail
  refine range_wide rfl (enters_of Tryd.func35 (by kernel_rfl) rfl) ?_
  intro fn W1 hlr hD hf1 hsz1
  obtain ⟨D, hDD⟩ : ∃ D, D = w1.heap.size := ⟨_, rfl⟩
  rw [← hDD] at hlr hD hsz1 ⊢
  have hBD : w.heap.size + 3 ≤ D := by
    have h1 := (Array.getElem?_eq_some_iff.1 HROW.out).1
    have h2 := HSZ.out
    omega
  have HW1 := Lib.hid hf1
  have HLR := Lib.hid hlr
  have HDF := Lib.hid hD
  have HROW1 := Lib.hid (hf1.obj HROW.out (by simp))
  have HOWN1 : Hid (W1.ownsRow (w.heap.size + 3) 5 1 (.slice ga L.length gc) L.length (L.map B8)) := Lib.hid (by
    have h := own_fr HOWN.out hf1 (by simp)
    rwa [HSZ.out] at h)
  have HO1 : Hid (W1.heap[w.heap.size]? = some (.cells #[.slice none 0 0] 35)) := Lib.hid ((HF1.out.trans hf1).obj HZ1.out (by simp))
  have HO2 : Hid (W1.heap[w.heap.size + 1]? = some (.cells #[.int .i64 0] 27)) := Lib.hid ((HF1.out.trans hf1).obj HZ2.out (by simp))
  have HFW : Hid (Fr [] w W1) := Lib.hid ((HFZ.out.trans HF1.out).trans hf1)
  have HDD := Lib.hid hDD
  have HSZ1 := Lib.hid hsz1
  clear hDD hsz1
  obtain ⟨R, hR, hlr2⟩ := lp_take hlr
  refine (All1_in 4 (D + 1) wz.heap.size ga gc L W1 (SplJ R (D + 1) D w.heap.size ga gc L w) (SplE R (D + 1) D w.heap.size L w) (fun _ => False) (by omega) (own_by HOWN.out).2 (cell_of_row _ _ 0 _ _ _ HROW1.out) (own_by HOWN1.out).1 (nib_keep HN.out HFW.out) ?_ ?_ ?_).mono ?_
  · exact ⟨hlr2, HDF.out, HO2.out, HOWN1.out, HFW.out, _, [], HO1.out, FrL.nil _ _, rfl⟩
  · intro F t d a' c' A W2 hJ hfA hox hF
    have HJ := Lib.hid hJ
    have HFA := Lib.hid hfA
    have HOX := Lib.hid hox
    have hl2 := hfA.obj hJ.1 (by simp)
    rw [hR] at hl2
    clear hlr hlr2 hD hf1 hJ hfA hox
    refine yield_wide hl2 rfl ?_
    gi_wp2_with fail
    refine ⟨((Fr.refl [] W2).alloc _).obj hl2 (by simp), ?_⟩
    obtain ⟨h1, h2, h3, h4, h5, v, X, h6, h7, h8⟩ := HJ.out
    obtain ⟨va, vc, rfl⟩ := own_sl h7.row
    have hDA : D + 1 < A.heap.size := (Array.getElem?_eq_some_iff.1 h1).1
    have hA2 := HFA.out.size
    generalize hWb : World.putObj (W2.alloc _) (D + 1) _ = Wb
    have hfb : Fr [D + 1] A Wb := by rw [← hWb]; exact ((HFA.out.mono (by simp)).alloc _).putObj (by simp) _
    have hf2 : Fr [D + 1] W2 Wb := by rw [← hWb]; exact ((Fr.refl _ W2).alloc _).putObj (by simp) _
    have hlb := put_take hWb (by simp; omega)
    have hbx : Wb.heap[W2.heap.size]? = some (.cells #[.int .i64 (I8 t), .slice a' d.length c'] 25) := by
      rw [← hWb, World.putObj_heap_other (by omega)]
      exact heap_alloc_new _ _
    clear hWb hl2
    have h7b : FrL Wb w.heap.size (.slice va X.length vc) X := h7.fr hfb (fun g hg hm => own_lp h7.row (hR ▸ h1) (by rw [hg]; simpa using hm)) (fun x hx g hg hm => own_lp (h7.dat x hx) (hR ▸ h1) (by rw [hg]; simpa using hm))
    have hxb : Wb.ownsRow A.heap.size 5 1 (.slice a' d.length c') d.length (d.map B8) := own_fr HOX.out hf2 (by intro g hg hm; have := (own_lt HOX.out hg).1; simp at hm; omega)
    have h6b := hfb.obj h6 (by simp; omega)
    have q0 := cell_of_row Wb w.heap.size 0 _ _ _ h6b
    have q1 := frozen_of_row Wb w.heap.size 0 _ _ h6b
    obtain ⟨y0, y1⟩ := duo hbx
    have H7B := Lib.hid h7b
    have HXB := Lib.hid hxb
    have H6B := Lib.hid h6b
    have HFB := Lib.hid hfb
    have HLB := Lib.hid hlb
    have HXL := Lib.hid (show X.length ≤ 4398046511100 by
      obtain ⟨F', hF'⟩ := hF
      have e1 := run_end L
      rw [hF'] at e1
      rw [List.length_append, ← h8, List.length_map] at e1
      omega)
    have H1 := Lib.hid h1
    have H2 := Lib.hid h2
    have H3 := Lib.hid h3
    have H4 := Lib.hid h4
    have H5 := Lib.hid h5
    have H7 := Lib.hid h7
    have H8 := Lib.hid h8
    clear h1 h2 h3 h4 h5 h6 h7 h8 hF h7b hxb h6b hfb hf2 hbx hlb
    have HNA := Lib.hid (Wb.size_alloc (.cells #[.int .i64 (I8 t), .slice a' d.length c'] 25))
    have HOA := Lib.hid (heap_alloc_new Wb (.cells #[.int .i64 (I8 t), .slice a' d.length c'] 25))
    have HAL := Lib.hid (own_fr H7B.out.row ((Fr.refl [] _).alloc (.cells #[.int .i64 (I8 t), .slice a' d.length c'] 25)) (by simp))
    have HNE : Hid (w.heap.size ∉ (Value.slice va X.length vc).ownBlock.toList) := Lib.hid (by intro hm; exact own_ty H7B.out.row H6B.out (by decide) (by simpa using hm))
    have HBW : Hid (w.heap.size ≤ (Wb.alloc (.cells #[.int .i64 (I8 t), .slice a' d.length c'] 25)).heap.size) := Lib.hid (by have := (Array.getElem?_eq_some_iff.1 H6B.out).1; simp; omega)
    gi_wp2_with (gi_at_builtin; refine wpListIn_appS _ rfl _ _ 35 rfl w.heap.size 25 _ 2 32 Tryd.underlying35 infoFL rfl (by decide) (.slice va X.length vc) X.length (fiCells X) rfl HAL.out (some ⟨Wb.heap.size, 0, none⟩) 1 1 [.int .i64 (I8 t), .slice a' d.length c'] rfl rfl (fr_news HOA.out) (fun h => by cases h) (by simp [Value.oneCell']) (by unfold maxLen; have := HXL.out; omega) (by have := HXL.out; omega) HBW.out ?_; intro v' w' happ; obtain ⟨va', vc', rfl⟩ := own_sl happ.own; have HAP := Lib.hid happ; have H6C := Lib.hid ((app_fr2 happ).obj (((Fr.refl [] Wb).alloc (.cells #[.int .i64 (I8 t), .slice a' d.length c'] 25)).obj H6B.out (by simp)) HNE.out); clear happ; have z0 := cell_of_row w' w.heap.size 0 _ _ _ H6C.out; have z1 := frozen_of_row w' w.heap.size 0 _ _ H6C.out)
    rw [← hR]
    rw [← hR] at HLB
    have hsz : w.heap.size ≤ A.heap.size := H5.out.size
    have hvb : ∀ g, (Value.slice va X.length vc).ownBlock = some g → w.heap.size ≤ g := fun g hg => (H7.out.lt.1 g hg).1
    have hfc : Fr ([D + 1, w.heap.size] ++ (Value.slice va X.length vc).ownBlock.toList) A w' := (((HFB.out.mono (by simp)).alloc _).next (app_fr2 HAP.out) (by intro i hi _; simp only [List.mem_append]; exact .inr hi))
    have hfd := hfc.setCell (p := ⟨w.heap.size, 0, none⟩) (by intro _; simp) (.slice va' (X.length + 1) vc')
    have hfe := hfd.putObj (l := D + 1) (by intro _; simp) (R .ready none)
    have hlc : w'.heap[D + 1]? = some (R .busy none) := (app_fr2 HAP.out).obj (((Fr.refl [] Wb).alloc _).obj HLB.out (by simp)) (by intro hm; exact own_lp H7B.out.row (hR ▸ HLB.out) (by simpa using hm))
    have hld : (w'.setCell ⟨w.heap.size, 0, none⟩ (.slice va' (X.length + 1) vc')).heap[D + 1]? = some (R .busy none) := ((Fr.refl [w.heap.size] w').setCell (by simp) _).obj hlc (by simp; omega)
    have hx7 := FrL.appN (x := ⟨t, a', c', d⟩) (H7B.out.keep ((Fr.refl [] Wb).alloc (.cells #[.int .i64 (I8 t), .slice a' d.length c'] 25))) (fun g hg => (H7.out.lt.1 g hg).2) (fun y hy g hg => (H7.out.lt.2 y hy g hg).2) (own_fr HXB.out ((Fr.refl [] Wb).alloc _) (by simp)) hsz HAP.out
    have hx8 : FrL (w'.setCell ⟨w.heap.size, 0, none⟩ (.slice va' (X.length + 1) vc')) w.heap.size (.slice va' (X.length + 1) vc') (X ++ [⟨t, a', c', d⟩]) := hx7.fr ((Fr.refl [w.heap.size] w').setCell (by simp) _) (fun g hg hm => own_ty hx7.row H6C.out (by decide) (by rw [hg]; simpa using hm)) (fun y hy g hg hm => own_ty (hx7.dat y hy) H6C.out (by decide) (by rw [hg]; simpa using hm))
    have hx9 : FrL ((w'.setCell ⟨w.heap.size, 0, none⟩ (.slice va' (X.length + 1) vc')).putObj (D + 1) (R .ready none)) w.heap.size (.slice va' (X.length + 1) vc') (X ++ [⟨t, a', c', d⟩]) := hx8.fr ((Fr.refl [D + 1] _).putObj (by simp) _) (fun g hg hm => own_lp hx8.row (hR ▸ hld) (by rw [hg]; simpa using hm)) (fun y hy g hg hm => own_lp (hx8.dat y hy) (hR ▸ hld) (by rw [hg]; simpa using hm))
    have hdn : D ∉ [D + 1, w.heap.size] ++ (Value.slice va X.length vc).ownBlock.toList := by
      intro hm
      rcases List.mem_append.1 hm with hm | hm
      · simp at hm; omega
      · exact own_df H7.out.row H2.out (by simpa using hm)
    have hon : w.heap.size + 1 ∉ [D + 1, w.heap.size] ++ (Value.slice va X.length vc).ownBlock.toList := by
      intro hm
      rcases List.mem_append.1 hm with hm | hm
      · simp at hm; omega
      · exact own_ty H7.out.row H3.out (by decide) (by simpa using hm)
    have hgn : ∀ g, (Value.slice ga L.length gc).ownBlock = some g → g ∉ [D + 1, w.heap.size] ++ (Value.slice va X.length vc).ownBlock.toList := by
      intro g hg hm
      rcases List.mem_append.1 hm with hm | hm
      · rcases List.mem_cons.1 hm with rfl | hm
        · exact own_lp H4.out (hR ▸ H1.out) hg
        · have := (own_lt H4.out hg).1
          simp at hm
          omega
      · exact own_two H4.out H7.out.row (by decide) g hg (by simpa using hm)
    have hg9 := own_fr H4.out hfe hgn
    have hfw : Fr [] w ((w'.setCell ⟨w.heap.size, 0, none⟩ (.slice va' (X.length + 1) vc')).putObj (D + 1) (R .ready none)) := H5.out.next hfe (by
      intro i hi hlt
      rcases List.mem_append.1 hi with hm | hm
      · simp at hm; omega
      · have := hvb i (by simpa using hm); omega)
    refine ⟨hld, rfl, ⟨World.putObj_heap_same (by have := (Array.getElem?_eq_some_iff.1 hld).1; omega), hfe.obj H2.out hdn, hfe.obj H3.out hon, hg9, hfw, .slice va' (X.length + 1) vc', X ++ [⟨t, a', c', d⟩], ?_, hx9, ?_⟩, (own_by hg9).1, nib_keep HN.out hfw⟩
    · rw [World.putObj_heap_other (by omega), heap_setCell_same w' _ 0 _ _ _ H6C.out]; rfl
    · rw [List.map_append, H8.out]; rfl
  · intro A W2 a' c' hJ hfA hne hno'
    have HJ := Lib.hid hJ
    have HFA := Lib.hid hfA
    have hl2 := hfA.obj hJ.1 (by simp)
    rw [hR] at hl2
    have hne2 : (erF L == 0) = false := by rw [beq_eq_false_iff_ne]; exact hne
    obtain ⟨E, hE⟩ : ∃ E, E = erF L := ⟨_, rfl⟩
    rw [← hE] at hne2 ⊢
    have HE := Lib.hid hE
    clear hlr hlr2 hD hf1 hJ hfA hne hE hno'
    refine yield_wide hl2 rfl ?_
    gi_wp2_with fail
    refine ⟨((Fr.refl [] W2).alloc _).obj hl2 (by simp), ?_⟩
    obtain ⟨h1, h2, h3, h4, h5, v, X, h6, h7, h8⟩ := HJ.out
    have hDA : D + 1 < A.heap.size := (Array.getElem?_eq_some_iff.1 h1).1
    have hA2 := HFA.out.size
    generalize hWb : World.putObj (W2.alloc _) (D + 1) _ = Wb
    have hfb : Fr [D + 1] A Wb := by rw [← hWb]; exact ((HFA.out.mono (by simp)).alloc _).putObj (by simp) _
    have hlb := put_take hWb (by simp; omega)
    clear hWb hl2
    have h6b := hfb.obj h6 (by simp; omega)
    have h3b := hfb.obj h3 (by simp; omega)
    have h2b := hfb.obj h2 (by simp)
    obtain ⟨va, vc, rfl⟩ := own_sl h7.row
    have q0 := cell_of_row Wb w.heap.size 0 _ _ _ h6b
    have q1 := frozen_of_row Wb w.heap.size 0 _ _ h6b
    have q2 := cell_of_row Wb (w.heap.size + 1) 0 _ _ _ h3b
    have q3 := frozen_of_row Wb (w.heap.size + 1) 0 _ _ h3b
    have q4 : (Wb.setCell ⟨w.heap.size, 0, none⟩ (.slice none 0 0)).heap[w.heap.size + 1]? = some (.cells #[.int .i64 0] 27) := ((Fr.refl [w.heap.size] Wb).setCell (by simp) _).obj h3b (by simp)
    have q5 := cell_of_row _ (w.heap.size + 1) 0 _ _ _ q4
    have q6 := frozen_of_row _ (w.heap.size + 1) 0 _ _ q4
    have hll : w.heap.size < Wb.heap.size := (Array.getElem?_eq_some_iff.1 h6b).1
    have H6B := Lib.hid h6b
    have H2B := Lib.hid h2b
    have Q4 := Lib.hid q4
    have HFB := Lib.hid hfb
    have HLB := Lib.hid hlb
    have H5 := Lib.hid h5
    clear h1 h2 h3 h4 h5 h6 h7 h8 h6b h3b h2b q4 hfb hlb
    gi_wp2_with fail
    rw [← hR]
    rw [← hR] at HLB
    have hsz : w.heap.size ≤ A.heap.size := H5.out.size
    have hf7 : Fr [w.heap.size, w.heap.size + 1] Wb ((Wb.setCell ⟨w.heap.size, 0, none⟩ (.slice none 0 0)).setCell ⟨w.heap.size + 1, 0, none⟩ (.int .i64 E)) := ((Fr.refl [w.heap.size, w.heap.size + 1] Wb).setCell (by simp) _).setCell (by simp) _
    have hl7 := hf7.obj HLB.out (by simp; omega)
    have hd7 := hf7.obj H2B.out (by simp; omega)
    have ho7 : ((Wb.setCell ⟨w.heap.size, 0, none⟩ (.slice none 0 0)).setCell ⟨w.heap.size + 1, 0, none⟩ (.int .i64 E)).heap[w.heap.size + 1]? = some (.cells #[.int .i64 E] 27) := by rw [heap_setCell_same _ _ 0 _ _ _ Q4.out]; rfl
    have ho8 : ((Wb.setCell ⟨w.heap.size, 0, none⟩ (.slice none 0 0)).setCell ⟨w.heap.size + 1, 0, none⟩ (.int .i64 E)).heap[w.heap.size]? = some (.cells #[.slice none 0 0] 35) := ((Fr.refl [w.heap.size + 1] _).setCell (by simp) _).obj (heap_setCell_same _ _ 0 _ _ _ H6B.out) (by simp)
    have hfw : Fr [] w (((Wb.setCell ⟨w.heap.size, 0, none⟩ (.slice none 0 0)).setCell ⟨w.heap.size + 1, 0, none⟩ (.int .i64 E)).putObj (D + 1) (R .done (some .ret))) :=
      (((H5.out.next HFB.out (by intro i hi hlt; simp at hi; omega)).setCell (by simp) _).setCell (by simp) _).putObj (by omega) _
    refine ⟨hl7, .inl rfl, World.putObj_heap_same (by have := (Array.getElem?_eq_some_iff.1 hl7).1; omega), ?_, ?_, ?_, hfw⟩
    · rw [World.putObj_heap_other (by omega)]; exact hd7
    · rw [World.putObj_heap_other (by omega)]; exact ho8
    · rw [World.putObj_heap_other (by omega), ← HE.out]; exact ho7
  · rintro e W2 ⟨⟨vv, rfl⟩, (⟨h0, A, hJ, hfA⟩ | ⟨h0, hE⟩ | hF)⟩
    · have HS2 := Lib.hid (show spl L = ((run L).1, 0) by rw [spl_er, h0, if_pos rfl])
      refine ⟨⟨_, rfl⟩, .inl ?_⟩
      obtain ⟨h1, h2, h3, h4, h5, v, X, h6, h7, h8⟩ := hJ
      obtain ⟨va, vc, rfl⟩ := own_sl h7.row
      have hDA : D + 1 < A.heap.size := (Array.getElem?_eq_some_iff.1 h1).1
      have hl2 := hfA.obj h1 (by simp)
      refine ⟨hR ▸ hl2, ?_⟩
      generalize hWb : World.putObj W2 (D + 1) _ = Wb
      have hfb : Fr [D + 1] A Wb := by rw [← hWb]; exact (hfA.mono (by simp)).putObj (by simp) _
      clear hWb
      have h7b : FrL Wb w.heap.size (.slice va X.length vc) X := h7.fr hfb (fun g hg hm => own_lp h7.row (hR ▸ h1) (by rw [hg]; simpa using hm)) (fun x hx g hg hm => own_lp (h7.dat x hx) (hR ▸ h1) (by rw [hg]; simpa using hm))
      have h6b := hfb.obj h6 (by simp; omega)
      have h3b := hfb.obj h3 (by simp; omega)
      have h2b := hfb.obj h2 (by simp)
      have q0 := cell_of_row Wb w.heap.size 0 _ _ _ h6b
      have q1 := frozen_of_row Wb w.heap.size 0 _ _ h6b
      have q4 : (Wb.setCell ⟨w.heap.size, 0, none⟩ (.slice va X.length vc)).heap[w.heap.size + 1]? = some (.cells #[.int .i64 0] 27) := ((Fr.refl [w.heap.size] Wb).setCell (by simp) _).obj h3b (by simp)
      have q5 := cell_of_row _ (w.heap.size + 1) 0 _ _ _ q4
      have q6 := frozen_of_row _ (w.heap.size + 1) 0 _ _ q4
      have hll : w.heap.size < Wb.heap.size := (Array.getElem?_eq_some_iff.1 h6b).1
      have H6B := Lib.hid h6b
      have H2B := Lib.hid h2b
      have H3B := Lib.hid h3b
      have H7B := Lib.hid h7b
      have Q4 := Lib.hid q4
      have HFB := Lib.hid hfb
      have H5 := Lib.hid h5
      have H8 := Lib.hid h8
      clear hlr hlr2 hD hf1 h0 h1 h2 h3 h4 h5 h6 h7 h8 h6b h3b h2b q4 hfb hl2 hfA h7b hR
      gi_wp2_with fail
      have hf7 : Fr [w.heap.size, w.heap.size + 1] Wb ((Wb.setCell ⟨w.heap.size, 0, none⟩ (.slice va X.length vc)).setCell ⟨w.heap.size + 1, 0, none⟩ (.int .i64 0)) := ((Fr.refl [w.heap.size, w.heap.size + 1] Wb).setCell (by simp) _).setCell (by simp) _
      have hd7 := hf7.obj H2B.out (by simp; omega)
      have ho7 : ((Wb.setCell ⟨w.heap.size, 0, none⟩ (.slice va X.length vc)).setCell ⟨w.heap.size + 1, 0, none⟩ (.int .i64 0)).heap[w.heap.size + 1]? = some (.cells #[.int .i64 0] 27) := by rw [heap_setCell_same _ _ 0 _ _ _ Q4.out]; rfl
      have ho8 : ((Wb.setCell ⟨w.heap.size, 0, none⟩ (.slice va X.length vc)).setCell ⟨w.heap.size + 1, 0, none⟩ (.int .i64 0)).heap[w.heap.size]? = some (.cells #[.slice va X.length vc] 35) := ((Fr.refl [w.heap.size + 1] _).setCell (by simp) _).obj (heap_setCell_same _ _ 0 _ _ _ H6B.out) (by simp)
      have hx7 := H7B.out.fr hf7 (fun g hg hm => by
          have hm2 : g = w.heap.size ∨ g = w.heap.size + 1 := by simpa using hm
          rcases hm2 with rfl | rfl
          · exact own_ty H7B.out.row H6B.out (by decide) hg
          · exact own_ty H7B.out.row H3B.out (by decide) hg) (fun x hx g hg hm => by
          have hm2 : g = w.heap.size ∨ g = w.heap.size + 1 := by simpa using hm
          rcases hm2 with rfl | rfl
          · exact own_ty (H7B.out.dat x hx) H6B.out (by decide) hg
          · exact own_ty (H7B.out.dat x hx) H3B.out (by decide) hg)
      refine mark_ret hd7 (results_cc rfl _ _ ⟨w.heap.size, 0, none⟩ ⟨w.heap.size + 1, 0, none⟩ _ _ rfl rfl (load_sl (by rw [World.putObj_heap_other (by omega)]; exact ho8)) (load_en (by rw [World.putObj_heap_other (by omega)]; exact ho7))) ?_
      refine ⟨_, X, by rw [HS2.out], ?_, by rw [HS2.out]; exact H8.out, ?_⟩
      · exact hx7.fr ((Fr.refl [D] _).putObj (by simp) _) (fun g hg hm => own_df hx7.row hd7 (by rw [hg]; simpa using hm)) (fun y hy g hg hm => own_df (hx7.dat y hy) hd7 (by rw [hg]; simpa using hm))
      · exact (((H5.out.next HFB.out (by intro i hi hlt; simp at hi; omega)).setCell (by simp) _).setCell (by simp) _).putObj (by omega) _
    · have HS2 := Lib.hid (show spl L = ([], erF L) by rw [spl_er, if_neg h0])
      refine ⟨⟨_, rfl⟩, .inr ?_⟩
      obtain ⟨h1, h2, h3, h4, h5⟩ := hE
      refine ⟨.ret, hR ▸ h1, ?_⟩
      have hDA : D + 1 < W2.heap.size := (Array.getElem?_eq_some_iff.1 h1).1
      generalize hWb : World.putObj W2 (D + 1) _ = Wb
      have hfb : Fr [D + 1] W2 Wb := by rw [← hWb]; exact (Fr.refl _ _).putObj (by simp) _
      clear hWb
      have h2b := hfb.obj h2 (by simp)
      have h3b := hfb.obj h3 (by simp; omega)
      have h4b := hfb.obj h4 (by simp; omega)
      have H2B := Lib.hid h2b
      have H3B := Lib.hid h3b
      have H4B := Lib.hid h4b
      have HFB := Lib.hid hfb
      have H5 := Lib.hid h5
      have hsw := h5.size
      clear hlr hlr2 hD hf1 h0 h1 h2 h3 h4 h5 h2b h3b h4b hfb hR
      gi_wp2_with fail
      refine mark_ret H2B.out (results_cc rfl _ _ ⟨w.heap.size, 0, none⟩ ⟨w.heap.size + 1, 0, none⟩ _ _ rfl rfl (load_sl (by rw [World.putObj_heap_other (by omega)]; exact H3B.out)) (load_en (by rw [World.putObj_heap_other (by omega)]; exact H4B.out))) ?_
      refine ⟨_, [], by rw [HS2.out], FrL.nil _ _, by rw [HS2.out]; rfl, ?_⟩
      exact (H5.out.next HFB.out (by intro i hi hlt; simp at hi; omega)).putObj (by omega) _
    · exact hF.elim
end Go.Proofs.YtkgfdcagninphaaDoor
