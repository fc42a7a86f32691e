/- Tokens: TokensAll. -/
import Derived.Test.YtlckhfjkdahfpaaDoorTkX
namespace Go.Proofs.YtlckhfjkdahfpaaDoor
open Go.RowKit Go.Maps Go.Shelf
attribute [local go_sem] Oper.semAt_some
theorem results_cT {P : Program} {fn : Func} {p : Tmp} {ty : TypeId} (h : fn.results = #[.cell p ty]) (tmps : Array Value) (w : World) (a : Addr) (x : Value)
    (hp : tmps.getD p undef = .pointer (some a)) (h1 : (loadVar ty a).run P w = .ok x w) : (results fn tmps).run P w = .ok x w := by
  have key : (results fn tmps).run P w = ((asAddr (tmps.getD p undef)).run P w).andThen fun a w₁ => (loadVar ty a).run P w₁ := by
    simp only [results, h]
    simp [Sem.run_bind, Result.andThen]
  rw [key, hp]
  simp [asAddr, h1]
theorem load_bT {w : World} {b : Nat} {v : Value} {T : Nat} (h : w.heap[b]? = some (.cells #[v] T)) : (loadVar 4 ⟨b, 0, none⟩).run Tryd.prog w = .ok v w := by
  have hc := cell_of_row w b 0 _ _ _ h
  simp at hc
  simp [loadVar, go_sem, hc]
/-- what the third loop's rounds hold in memory -/
structure TaS (w0 : World) (RZ WB gW cW Bn : Nat) (cv : Value) (N : Nms) (A : World) : Prop where
  rz : A.heap[RZ]? = some (.cells #[.bool false] 4)
  wb : A.heap[WB]? = some (.cells #[.slice (some ⟨gW, 0, none⟩) N.length cW] 23)
  wr : A.ownsRow w0.heap.size 9 1 (.slice (some ⟨gW, 0, none⟩) N.length cW) N.length (N.map Str)
  bn : A.heap[Bn]? = some (.cells #[cv] 23)
  cr : A.ownsRow w0.heap.size 9 1 cv N.length (N.map Str)
  fr : Fr [] w0 A
  new : w0.heap.size ≤ RZ
theorem TaS.step {S : List Nat} {w0 : World} {RZ WB gW cW Bn : Nat} {cv : Value} {N : Nms} {A A' : World} (h : TaS w0 RZ WB gW cW Bn cv N A) (hf : Fr S A A') (hS : ∀ i ∈ S, w0.heap.size ≤ i) (h1 : RZ ∉ S) (h2 : WB ∉ S) (h3 : gW ∉ S) (h4 : Bn ∉ S) (h5 : ∀ g, cv.ownBlock = some g → g ∉ S) : TaS w0 RZ WB gW cW Bn cv N A' :=
  ⟨hf.obj h.rz h1, hf.obj h.wb h2, own_fr h.wr hf (fun g hg => by have : gW = g := by simpa [Value.ownBlock] using hg
                                                                  rw [← this]; exact h3), hf.obj h.bn h4, own_fr h.cr hf h5, frNewT h.fr hf hS, h.new⟩
theorem TaS.keep {w0 : World} {RZ WB gW cW Bn : Nat} {cv : Value} {N : Nms} {A A' : World} (h : TaS w0 RZ WB gW cW Bn cv N A) (hf : Fr [] A A') : TaS w0 RZ WB gW cW Bn cv N A' :=
  h.step hf (by simp) (by simp) (by simp) (by simp) (by simp) (by simp)
def isL : Obj → Prop
  | .loop _ => True
  | _ => False
theorem isL_lp (fn : FuncId) (tmps : Array Value) (ps : Array Tmp) (assign body : Code) (D : Nat) (st : LoopState) (pe : Option Code) : isL (lpR fn tmps ps assign body D st pe) := by unfold lpR; trivial
/-- an object that is none of what the rounds read -/
def offT : Obj → Prop
  | .cells _ T _ => T ≠ 4 ∧ T ≠ 23 ∧ T ≠ 9
  | _ => True
theorem isL.off {o : Obj} (h : isL o) : offT o := by
  cases o <;> trivial
theorem own_offT {w : World} {B n k : Nat} {v : Value} {xs : List Value} {o : Obj} (h : w.ownsRow B 9 1 v n xs) (hk : w.heap[k]? = some o) (ho : offT o) : v.ownBlock ≠ some k := by
  rcases h.2 with ⟨rfl, _⟩ | ⟨g, cap, cur, rfl, _, hh, _⟩
  · simp [Value.ownBlock]
  · simp only [Value.ownBlock]
    intro e1
    cases e1
    rw [hk] at hh
    cases hh
    exact ho.2.2 rfl
theorem TaS.fr1 {w0 : World} {RZ WB gW cW Bn : Nat} {cv : Value} {N : Nms} {A A' : World} {X : Nat} {o : Obj} (h : TaS w0 RZ WB gW cW Bn cv N A) (hx : A.heap[X]? = some o) (ho : offT o) (hX : w0.heap.size ≤ X) (hf : Fr [X] A A') : TaS w0 RZ WB gW cW Bn cv N A' := by
  have key : ∀ {i : Nat} {cs : Array Value} {T : Nat}, A.heap[i]? = some (.cells cs T) → (T = 4 ∨ T = 23) → i ∉ [X] := fun {i cs T} hi hT hm => by
    simp at hm
    subst hm
    rw [hx] at hi
    cases hi
    rcases hT with rfl | rfl
    · exact ho.1 rfl
    · exact ho.2.1 rfl
  refine h.step hf (fun i hi => by simp at hi; omega) (key h.rz (.inl rfl)) (key h.wb (.inr rfl)) (fun hm => ?_) (key h.bn (.inr rfl)) (fun g hg hm => ?_)
  · simp at hm
    exact own_offT h.wr hx ho (by rw [← hm]; rfl)
  · simp at hm
    exact own_offT h.cr hx ho (by rw [hg, hm])
structure TaL (w0 : World) (RZ WB gW cW Bn : Nat) (cv : Value) (N : Nms) (XR r XA D : Nat) (Ds : List Nat) (o : Obj) (at_ : Nat) (A : World) : Prop where
  s : TaS w0 RZ WB gW cW Bn cv N A
  xr : A.heap[XR]? = some (.cells #[.int .i64 r] 3)
  xa : A.heap[XA]? = some (.cells #[.int .i64 at_] 3)
  lp : A.heap[D + 1]? = some o
  il : isL o
  df : ∀ D' ∈ D :: Ds, A.heap[D']? = some (.deferred (some []))
  ne : XA ≠ XR
  new : w0.heap.size ≤ XR ∧ w0.heap.size ≤ XA ∧ w0.heap.size ≤ D
theorem int_offT (v : Value) : offT (.cells #[v] 3) := ⟨by decide, by decide, by decide⟩
theorem TaL.keep {w0 : World} {RZ WB gW cW Bn : Nat} {cv : Value} {N : Nms} {XR r XA D : Nat} {Ds : List Nat} {o : Obj} {at_ : Nat} {A A' : World} (h : TaL w0 RZ WB gW cW Bn cv N XR r XA D Ds o at_ A) (hf : Fr [] A A') : TaL w0 RZ WB gW cW Bn cv N XR r XA D Ds o at_ A' :=
  ⟨h.s.keep hf, hf.obj h.xr (by simp), hf.obj h.xa (by simp), hf.obj h.lp (by simp), h.il, fun D' hD => hf.obj (h.df D' hD) (by simp), h.ne, h.new⟩
theorem obj_ne {A : World} {i j : Nat} {a b : Obj} (hi : A.heap[i]? = some a) (hj : A.heap[j]? = some b) (h : a ≠ b) : i ≠ j := fun e => by
  rw [e, hj] at hi
  exact h (Option.some.inj hi).symm
theorem isL_cells {o : Obj} (h : isL o) (cs : Array Value) (T : Nat) (fz : Nat × Nat) : Obj.cells cs T fz ≠ o := fun e => by rw [← e] at h; exact h
theorem isL_def {o : Obj} (h : isL o) (x : Option (List Deferred)) : Obj.deferred x ≠ o := fun e => by rw [← e] at h; exact h
theorem TaL.setA {w0 : World} {RZ WB gW cW Bn : Nat} {cv : Value} {N : Nms} {XR r XA D : Nat} {Ds : List Nat} {o : Obj} {at_ : Nat} {A : World} (h : TaL w0 RZ WB gW cW Bn cv N XR r XA D Ds o at_ A) (at2 : Nat) : TaL w0 RZ WB gW cW Bn cv N XR r XA D Ds o at2 (A.setCell ⟨XA, 0, none⟩ (.int .i64 at2)) := by
  have hf : Fr [XA] A (A.setCell ⟨XA, 0, none⟩ (.int .i64 at2)) := (Fr.refl _ _).setCell (by simp) _
  refine ⟨h.s.fr1 h.xa (int_offT _) h.new.2.1 hf, hf.obj h.xr (by simpa using h.ne.symm), by rw [heap_setCell_same _ _ 0 _ _ _ h.xa]; rfl, hf.obj h.lp ?_, h.il, fun D' hD => hf.obj (h.df D' hD) ?_, h.ne, h.new⟩
  · simp only [List.mem_singleton]
    exact (obj_ne h.xa h.lp (isL_cells h.il _ _ _)).symm
  · simp only [List.mem_singleton]
    exact (obj_ne h.xa (h.df D' hD) (by simp)).symm
theorem TaL.putL {w0 : World} {RZ WB gW cW Bn : Nat} {cv : Value} {N : Nms} {XR r XA D : Nat} {Ds : List Nat} {o o' : Obj} {at_ : Nat} {A : World} (h : TaL w0 RZ WB gW cW Bn cv N XR r XA D Ds o at_ A) (ho : isL o') : TaL w0 RZ WB gW cW Bn cv N XR r XA D Ds o' at_ (A.putObj (D + 1) o') := by
  have hf : Fr [D + 1] A (A.putObj (D + 1) o') := (Fr.refl _ _).putObj (by simp) _
  refine ⟨h.s.fr1 h.lp h.il.off (by have := h.new; omega) hf, hf.obj h.xr ?_, hf.obj h.xa ?_, World.putObj_heap_same (Array.getElem?_eq_some_iff.1 h.lp).1, ho, fun D' hD => hf.obj (h.df D' hD) ?_, h.ne, h.new⟩
  · simp only [List.mem_singleton]
    exact obj_ne h.xr h.lp (isL_cells h.il _ _ _)
  · simp only [List.mem_singleton]
    exact obj_ne h.xa h.lp (isL_cells h.il _ _ _)
  · simp only [List.mem_singleton]
    exact obj_ne (h.df D' hD) h.lp (isL_def h.il _)
/-- what the walk reads -/
theorem TaL.cells {w0 : World} {RZ WB gW cW Bn : Nat} {cv : Value} {N : Nms} {XR r XA D : Nat} {Ds : List Nat} {o : Obj} {at_ : Nat} {A : World} (h : TaL w0 RZ WB gW cW Bn cv N XR r XA D Ds o at_ A) :
    A.cell? ⟨XR, 0, none⟩ = some (.int .i64 r) ∧ A.cell? ⟨XA, 0, none⟩ = some (.int .i64 at_) ∧ A.cell? ⟨WB, 0, none⟩ = some (.slice (some ⟨gW, 0, none⟩) N.length cW) ∧ A.frozen? ⟨XA, 0, none⟩ = false :=
  ⟨cell_of_row _ _ 0 _ _ _ h.xr, cell_of_row _ _ 0 _ _ _ h.xa, cell_of_row _ _ 0 _ _ _ h.s.wb, frozen_of_row _ _ 0 _ _ h.xa⟩
theorem TaL.name {w0 : World} {RZ WB gW cW Bn : Nat} {cv : Value} {N : Nms} {XR r XA D : Nat} {Ds : List Nat} {o : Obj} {at_ : Nat} {A : World} (h : TaL w0 RZ WB gW cW Bn cv N XR r XA D Ds o at_ A) {k : Nat} (hk : k < N.length) : A.cell? ⟨gW, k, none⟩ = some (Str (N.getD k [])) := by
  obtain ⟨g, c, e, h1, -⟩ := own_strC h.s.wr hk
  simp only [Value.slice.injEq, Option.some.injEq, Addr.mk.injEq] at e
  obtain ⟨⟨rfl, -⟩, -⟩ := e
  exact h1
def cellN (A : World) (X : Nat) : Nat := match A.cell? ⟨X, 0, none⟩ with | some (.int _ z) => z.toNat | _ => 0
theorem cellN_eq {A : World} {X k : Nat} (h : A.cell? ⟨X, 0, none⟩ = some (.int .i64 k)) : cellN A X = k := by
  unfold cellN
  rw [h]
  simp
set_option maxRecDepth 100000 in
def tkyT (sa : Option Addr) (n sc : Nat) (za : Option Addr) (m zc RZ t Bn WB q b3 k1 : Nat) (ma : Option Addr) (mc gW cW k XR nl s5 : Nat) (u10 u14 u46 u47 u48 u49 u50 u51 u52 u53 u68 u69 u70 u71 u72 u73 u74 u75 u16 u17 u18 u76 u77 u78 u79 u80 u81 u82 u83 u84 u85 u86 u87 u88 u89 u90 u91 u92 u93 u94 u95 u96 u97 u98 u99 u100 u101 u102 u103 u104 u105 u106 u107 u108 u109 u110 u111 u112 u113 u114 u115 u116 u117 u118 u119 u120 u121 u122 u123 u124 u125 u126 u127 u128 u129 u130 u131 u132 : Value) : List Value :=
  (Value.slice sa n sc) :: (Value.slice za m zc) :: undef :: undef :: (.pointer (some ⟨RZ, 0, none⟩)) :: (.pointer (some ⟨t, 0, none⟩)) :: (.int .i64 0) :: (.pointer (some ⟨q, 0, none⟩)) :: (.int .i64 0) :: undef :: u10 :: (.func (.func 49) #[] #[.pointer (some ⟨Bn, 0, none⟩)]) :: (.pointer (some ⟨WB, 0, none⟩)) :: undef :: u14 :: (.pointer (some ⟨XR, 0, none⟩)) :: u16 :: u17 :: u18 :: (.tuple #[.pointer (some ⟨t, 0, none⟩), .int .i64 0]) :: (.tuple #[.pointer (some ⟨t, 0, none⟩), .int .i64 0]) :: (.pointer (some ⟨t, 0, none⟩)) :: (.int .i64 0) :: (.tuple #[.pointer (some ⟨q, 0, none⟩), .int .i64 0]) :: (.tuple #[.pointer (some ⟨q, 0, none⟩), .int .i64 0]) :: (.pointer (some ⟨q, 0, none⟩)) :: (.int .i64 0) :: (.pointer (some ⟨t, 0, none⟩)) :: (.bool false) :: (.bool false) :: (.int .i64 0) :: (.bool false) :: (.bool false) :: (.bool false) :: (.pointer (some ⟨t, 0, none⟩)) :: (.func (.func 49) #[] #[.pointer (some ⟨b3, 0, none⟩)]) :: (.bool false) :: (.bool false) :: (.bool false) :: (.bool true) :: (.bool false) :: (.bool false) :: (.slice sa n sc) :: (.int .i64 n) :: (.int .i64 k1) :: (.bool false) :: u46 :: u47 :: u48 :: u49 :: u50 :: u51 :: u52 :: u53 :: (.pointer (some ⟨t, 0, none⟩)) :: (.func (.func 49) #[] #[.pointer (some ⟨Bn, 0, none⟩)]) :: (.func (.func 49) #[] #[.pointer (some ⟨Bn, 0, none⟩)]) :: (.bool false) :: (.slice (some ⟨s5, 0, none⟩) 0 0) :: (.pointer (some ⟨q, 0, none⟩)) :: (.pointer (some ⟨q, 0, none⟩)) :: (.pointer (some ⟨q, 2, none⟩)) :: (.slice ma nl mc) :: (.slice (some ⟨gW, 0, none⟩) nl cW) :: (.slice za m zc) :: (.int .i64 m) :: (.int .i64 k) :: (.bool false) :: u68 :: u69 :: u70 :: u71 :: u72 :: u73 :: u74 :: u75 :: u76 :: u77 :: u78 :: u79 :: u80 :: u81 :: u82 :: u83 :: u84 :: u85 :: u86 :: u87 :: u88 :: u89 :: u90 :: u91 :: u92 :: u93 :: u94 :: u95 :: u96 :: u97 :: u98 :: u99 :: u100 :: u101 :: u102 :: u103 :: u104 :: u105 :: u106 :: u107 :: u108 :: u109 :: u110 :: u111 :: u112 :: u113 :: u114 :: u115 :: u116 :: u117 :: u118 :: u119 :: u120 :: u121 :: u122 :: u123 :: u124 :: u125 :: u126 :: u127 :: u128 :: u129 :: u130 :: u131 :: u132 :: []
set_option maxRecDepth 100000 in
set_option maxHeartbeats 6400000 in
theorem tokensAll_walk (sa : Option Addr) (n sc : Nat) (F : Nat → OpT) (za : Option Addr) (m zc : Nat) (G : Nat → OpT) (w : World) (hn2 : n ≤ 140737488351300) (hF : OpsT w sa n F) (hm2 : m ≤ 140737488351300) (hG : OpsT w za m G) (hn : Nib w) :
    Calls Tryd.prog 8 #[.slice sa n sc, .slice za m zc] w fun e w' => e = .returned (.bool true) ∧ Fr [] w w' := by
  have HN := Lib.hid hn
  have HF := Lib.hid hF
  have HG := Lib.hid hG
  clear hn hF hG
  refine (callsIn_wide (n := 5)).1 ?_
  refine callsIn_of_wp_marks Tryd.func8 rfl trivial ?_ rfl
  simp only [Tryd.ntmps8, List.size_toArray, List.length_cons, List.length_nil, Nat.reduceAdd, Nat.reduceSub, Array.replicate_succ, Array.replicate_zero, List.push_toArray, List.append_toArray, List.nil_append, List.cons_append]
  refine wpIn_wide.2 ?_
  obtain ⟨wz, hwz⟩ : ∃ wz, wz = w.alloc (.cells #[.bool false] 4) := ⟨_, rfl⟩
  have hrz : wz.heap[w.heap.size]? = some (.cells #[.bool false] 4) := by rw [hwz]; exact heap_alloc_new w _
  have hfz : Fr [] w wz := by rw [hwz]; exact (Fr.refl _ _).alloc _
  obtain ⟨RZ, hRZ⟩ : ∃ RZ, RZ = w.heap.size := ⟨_, rfl⟩
  rw [← hRZ] at hrz
  have HRZ := Lib.hid hRZ
  have HR0 := Lib.hid hrz
  have HF0 := Lib.hid hfz
  have HWZ := Lib.hid hwz
  clear hwz hrz hfz hRZ
  go_upto_region 1 with fail
  rw [← HWZ.out, ← HRZ.out]
  clear HWZ
  have qF := eql_nilT
  have HA := Lib.hid (New_T 2 1 wz (by decide) (.inl rfl))
  go_wp2_with fail
  refine HA.out.mono ?_
  rintro e w1 ⟨t, bs, rfl, ht, hf1⟩
  have HT1 := Lib.hid ht
  have HF1 := Lib.hid (HF0.out.trans hf1)
  have HR1 := Lib.hid (hf1.obj HR0.out (by simp))
  obtain ⟨B, hB⟩ : ∃ B, B = wz.heap.size := ⟨_, rfl⟩
  rw [← hB] at HT1
  have HBW : Hid (RZ < B ∧ w.heap.size ≤ B) := Lib.hid ⟨by rw [hB]; exact (Array.getElem?_eq_some_iff.1 HR0.out).1, by rw [hB]; exact HF0.out.size⟩
  clear ht hf1 HA HR0 HF0 hB
  go_wp2_with fail
  refine (New_Q 2 1 w1).mono ?_
  rintro e w2 (⟨h, -⟩ | ⟨-, q, cs, rfl, hm, hf2⟩)
  · exact absurd h (by decide)
  obtain ⟨C, hC⟩ : ∃ C, C = w1.heap.size := ⟨_, rfl⟩
  rw [← hC] at hm
  have HP2 : Hid (TkPair B C w2 t q bs cs 2 1 []) := Lib.hid ⟨HT1.out.keep hf2, hm, fun i hi hj => by have := (HT1.out.lt i hi).2; have := (hm.lt i hj).1; omega⟩
  have HF2 := Lib.hid (HF1.out.trans hf2)
  have HR2 := Lib.hid (hf2.obj HR1.out (by simp))
  have HCW : Hid (RZ < C ∧ w.heap.size ≤ C) := Lib.hid ⟨by rw [hC]; exact (Array.getElem?_eq_some_iff.1 HR1.out).1, by rw [hC]; exact HF1.out.size⟩
  clear hm hf2 HT1 HR1 HF1 hC
  go_wp2_with fail
  refine (All_T B bs w2 t 2 1 [] HP2.out.f).mono ?_
  rintro e w3 ⟨b3, v3, rfl, -, -, -, hf3⟩
  have HP3 := Lib.hid (HP2.out.keep hf3)
  have HF3 := Lib.hid (HF2.out.trans hf3)
  have HR3 := Lib.hid (hf3.obj HR2.out (by simp))
  clear hf3 HP2 HF2 HR2
  have HSP := Lib.hid (speaks11 w3 (nib_keep HN.out HF3.out))
  go_wp2_with fail
  refine HSP.out.mono ?_
  rintro e w4 ⟨rfl, hf4⟩
  have HP4 := Lib.hid (HP3.out.keep hf4)
  have HF4 := Lib.hid (HF3.out.trans hf4)
  have HR4 := Lib.hid (hf4.obj HR3.out (by simp))
  clear hf4 HP3 HF3 HR3 HSP
  go_wp2_with fail
  go_loopw [44] (fun i wr => ∃ (k : Nat) (bs cs : List Nat) (N : Nms), k ≤ n ∧ i = .int .i64 k ∧ TkPair B C wr t q bs cs 2 1 N ∧ Fr [] w wr ∧ wr.heap[RZ]? = some (.cells #[.bool false] 4)) (fun i _ => n - (intOf i).toNat)
  case atStart => exact ⟨0, bs, cs, _, by omega, rfl, HP4.out, HF4.out, HR4.out⟩
  case round =>
    obtain ⟨k1, bs, cs, N, hk, rfl, hpr, hf, hrz⟩ := hrel
    have HP := Lib.hid hpr
    have HFR := Lib.hid hf
    have HR := Lib.hid hrz
    clear hpr hf hrz HP4 HF4 HR4
    have HRB : Hid (RZ ∉ bs ++ cs) := Lib.hid fun hm => by
      rcases List.mem_append.1 hm with hm | hm
      · have := (HP.out.f.lt RZ hm).1; have := HBW.out; omega
      · have := (HP.out.m.lt RZ hm).1; have := HCW.out; omega
    by_cases hlt : k1 < n
    · obtain ⟨sb, so, rfl, c0, c1, c2⟩ := (HF.out.keep HFR.out).cell k1 hlt
      have HOL := Lib.hid (HF.out.len k1 hlt)
      obtain ⟨okd, hokd⟩ : ∃ z, z = (F k1).kd := ⟨_, rfl⟩
      obtain ⟨oid, hoid⟩ : ∃ z, z = (F k1).id := ⟨_, rfl⟩
      obtain ⟨od, hod⟩ : ∃ z, z = (F k1).d := ⟨_, rfl⟩
      rw [← hod] at HOL
      rw [← hokd] at c0
      rw [← hoid] at c1
      rw [← hod] at c2
      obtain ⟨S, hS⟩ : ∃ S, S = ByteArray.mk od.toArray := ⟨_, rfl⟩
      rw [← hS] at c2
      obtain ⟨wbx, hwbx⟩ : ∃ wb, wb = wr.alloc (.cells #[.int .i64 okd, .int .i64 oid, .string S] 47) := ⟨_, rfl⟩
      have hbb : wbx.heap[wr.heap.size]? = some (.cells #[.int .i64 okd, .int .i64 oid, .string S] 47) := by rw [hwbx]; exact heap_alloc_new wr _
      have hfb : Fr [] wr wbx := by rw [hwbx]; exact (Fr.refl _ _).alloc _
      have HFX := Lib.hid hfb
      obtain ⟨b0, b1, b2⟩ := trioT hbb
      have HWBX := Lib.hid hwbx
      have HST : Hid (∀ W, Fr [] wbx W → Calls Tryd.prog 20 #[.pointer (some ⟨t, 0, none⟩), .pointer (some ⟨q, 0, none⟩), .agg #[.int .i64 okd, .int .i64 oid, .string S]] W fun e w' => e = .returned (.bool true) ∧ TkPairG B C t q bs cs 2 1 W w') := Lib.hid fun W hW => by
        rw [hS]
        exact step11 B C bs cs W t q 2 1 N okd oid od (HP.out.keep (HFX.out.trans hW)) HOL.out (by decide) (by decide) (nib_keep HN.out (HFR.out.trans (HFX.out.trans hW)))
      clear hokd hoid hod hwbx hbb hfb hS
      have hki : (k1 : Int) < (n : Int) := by omega
      have hk0 : (0 : Int) ≤ (k1 : Int) := by omega
      have ek : IntKind.i64.wrap ((k1 : Int) + 1) = (k1 : Int) + 1 := IntWalk.i64_in _ (by omega)
      go_wp2_with fail
      rw [← HWBX.out]
      clear HWBX c0 c1 c2
      refine (HST.out wbx (Fr.refl _ _)).mono ?_
      rintro e w5 ⟨rfl, bs4, cs4, N4, hp4, hf4⟩
      have HP5 := Lib.hid hp4
      have HF5 := Lib.hid (TkPairG.clean (HP.out.keep HFX.out) HBW.out.2 HCW.out.2 (HFR.out.trans HFX.out) hf4)
      have HR5 := Lib.hid (hf4.1.obj (HFX.out.obj HR.out (by simp)) HRB.out)
      clear hp4 hf4 b0 b1 b2 HST
      go_wp2_with fail
      go_roundw
      case rel => exact ⟨k1 + 1, bs4, cs4, N4, by omega, by go_num, HP5.out, HF5.out, HR5.out⟩
      case measure => simp [intOf] <;> omega
    · have hki : ¬ (k1 : Int) < (n : Int) := by omega
      clear hk
      go_wp2_with fail
      refine (All_T B bs wr t 2 1 N HP.out.f).mono ?_
      rintro e w5 ⟨Bn, cv, rfl, hbn, hbc, hcr, hf5⟩
      have HP5 := Lib.hid (HP.out.keep hf5)
      have HF5 := Lib.hid (HFR.out.trans hf5)
      have HR5 := Lib.hid (hf5.obj HR.out (by simp))
      have HBC5 := Lib.hid hbc
      have HCR5 := Lib.hid (own_base hcr HFR.out.size)
      have HBNO : Hid (Bn ∉ bs ++ cs) := Lib.hid fun hm => by
        rcases List.mem_append.1 hm with hm | hm
        · have := (HP.out.f.lt Bn hm).2; omega
        · have := (HP.out.m.lt Bn hm).2; omega
      have HCVO : Hid (∀ g, cv.ownBlock = some g → g ∉ bs ++ cs) := Lib.hid fun g hg hm => by
        have h0 := (own_lt hcr hg).1
        rcases List.mem_append.1 hm with hm | hm
        · have := (HP.out.f.lt g hm).2; omega
        · have := (HP.out.m.lt g hm).2; omega
      clear hbn hbc hcr hf5 HP HR
      have hm2q := HP5.out.m
      obtain ⟨mv, hmth, hcs⟩ := hm2q
      obtain ⟨ma, mc, rfl⟩ : ∃ a c, mv = .slice a N.length c := by
        rcases hmth.nms.2 with ⟨e, h0⟩ | ⟨g, cap, cur, e, _⟩
        · exact ⟨none, 0, by rw [h0]; exact e⟩
        · exact ⟨_, _, e⟩
      have hob : (w5.alloc (.cells #[] 9)).heap[q]? = _ := ((Fr.refl [] w5).alloc (.cells #[] 9)).obj hmth.obj (by simp)
      obtain ⟨x0, x1, x2⟩ := trioQ hob
      have HNW : Hid (∀ a, ma = some a → ∀ j u, (N.map Str)[j]? = some u → (w5.alloc (.cells #[] 9)).cell? (a.add j) = some u) := Lib.hid fun a ha => by
        subst ha
        rcases hmth.nms.2 with ⟨e, h0⟩ | ⟨g, cap, cur, e, _⟩
        · cases e
        · simp only [Value.slice.injEq, Option.some.injEq] at e
          obtain ⟨rfl, -, -⟩ := e
          exact (own_fr hmth.nms ((Fr.refl [] w5).alloc (.cells #[] 9)) (by simp)).cells (g := g) rfl
      have HNO : Hid (ma = none → N.length = 0 ∧ mc = 0) := Lib.hid fun ha => by
        subst ha
        rcases hmth.nms.2 with ⟨e, h0⟩ | ⟨g, cap, cur, e, _⟩
        · simp only [Value.slice.injEq] at e
          exact ⟨h0, e.2.2⟩
        · simp only [Value.slice.injEq] at e
          cases e.1
      have HL := Lib.hid (show (N.map Str).length = N.length * 1 by simp)
      have hN200 : N.length ≤ 200 := hmth.ok.len
      clear hob hmth hcs x0 x1
      go_wp2_with (at_builtin; refine wpList_appS _ rfl _ _ 23 rfl w5.heap.size 9 (.string ⟨#[]⟩) 1 16 Tryd.underlying23 infoS rfl (by decide) (.slice (some ⟨w5.heap.size, 0, none⟩) 0 0) 0 [] rfl (own_emptyS w5) ma N.length mc (N.map Str) rfl HL.out HNW.out HNO.out (str_one N) (by unfold maxLen; omega) (by omega) (by simp) ?_; intro v' w6 happ; obtain ⟨gW, cW, rfl, hgW, hgWl⟩ := (newS_app happ).addr; have HA := Lib.hid (newS_app happ); have HGW := Lib.hid (show w5.heap.size ≤ gW ∧ gW < w6.heap.size from ⟨hgW, hgWl⟩); clear happ hgW hgWl x2)
      obtain ⟨w7, hw7⟩ : ∃ w7, w7 = w6.alloc (.cells #[.slice (some ⟨gW, 0, none⟩) N.length cW] 23) := ⟨_, rfl⟩
      rw [← hw7]
      have hwb : w7.heap[w6.heap.size]? = some (.cells #[.slice (some ⟨gW, 0, none⟩) N.length cW] 23) := by rw [hw7]; exact heap_alloc_new w6 _
      have hf67 : Fr [] w6 w7 := by rw [hw7]; exact (Fr.refl _ _).alloc _
      obtain ⟨WB, hWB⟩ : ∃ WB, WB = w6.heap.size := ⟨_, rfl⟩
      rw [← hWB] at hwb ⊢
      have hf57 := HA.out.fr.trans hf67
      have HP7 := Lib.hid (HP5.out.keep hf57)
      have HTA : Hid (TaS w RZ WB gW cW Bn cv N w7) := Lib.hid ⟨hf57.obj HR5.out (by simp), hwb, own_fr (own_base HA.out.row HF5.out.size) hf67 (by simp), hf57.obj HBC5.out (by simp), own_fr HCR5.out hf57 (by simp), HF5.out.trans hf57, by rw [HRZ.out]; exact Nat.le_refl _⟩
      have HOFF : Hid (RZ ∉ bs ++ cs ∧ WB ∉ bs ++ cs ∧ gW ∉ bs ++ cs ∧ Bn ∉ bs ++ cs ∧ (∀ g, cv.ownBlock = some g → g ∉ bs ++ cs)) := Lib.hid (by
        have hlt : ∀ i ∈ bs ++ cs, i < w5.heap.size := fun i hi => by
          rcases List.mem_append.1 hi with hi | hi
          · exact (HP5.out.f.lt i hi).2
          · exact (HP5.out.m.lt i hi).2
        refine ⟨HRB.out, fun hm => ?_, fun hm => ?_, HBNO.out, HCVO.out⟩
        · have := hlt _ hm; have := HA.out.fr.size; omega
        · have := hlt _ hm; have := HGW.out.1; omega)
      have HBL : Hid (RZ < w7.heap.size ∧ WB < w7.heap.size ∧ gW < w7.heap.size ∧ Bn < w7.heap.size ∧ ∀ g, cv.ownBlock = some g → g < w7.heap.size) := Lib.hid ⟨(Array.getElem?_eq_some_iff.1 HTA.out.rz).1, (Array.getElem?_eq_some_iff.1 HTA.out.wb).1, (own_lt HTA.out.wr (g := gW) rfl).2, (Array.getElem?_eq_some_iff.1 HTA.out.bn).1, fun g hg => (own_lt HTA.out.cr hg).2⟩
      clear hwb hf67 hf57 hw7 hWB HP5 HF5 HR5 HBC5 HCR5 HBNO HCVO HNW HNO HL HA HGW HRB HFR
      go_loopw [66] (fun i wr => ∃ (k : Nat) (bs cs : List Nat) (N2 : Nms), k ≤ m ∧ i = .int .i64 k ∧ TkPair B C wr t q bs cs 2 1 N2 ∧ TaS w RZ WB gW cW Bn cv N wr ∧ (RZ ∉ bs ++ cs ∧ WB ∉ bs ++ cs ∧ gW ∉ bs ++ cs ∧ Bn ∉ bs ++ cs ∧ ∀ g, cv.ownBlock = some g → g ∉ bs ++ cs)) (fun i _ => m - (intOf i).toNat)
      case atStart => exact ⟨0, bs, cs, _, by omega, rfl, HP7.out, HTA.out, HOFF.out⟩
      case round =>
        obtain ⟨k, bs, cs, N2, hk, rfl, hpr, hta, hoff⟩ := hrel
        have HP := Lib.hid hpr
        have HTR := Lib.hid hta
        have HOF := Lib.hid hoff
        clear hpr hta hoff HP7 HTA HOFF HBL
        by_cases hlt : k < m
        · obtain ⟨sb, so, rfl, c0, c1, c2⟩ := (HG.out.keep HTR.out.fr).cell k hlt
          have HOL := Lib.hid (HG.out.len k hlt)
          obtain ⟨okd, hokd⟩ : ∃ z, z = (G k).kd := ⟨_, rfl⟩
          obtain ⟨oid, hoid⟩ : ∃ z, z = (G k).id := ⟨_, rfl⟩
          obtain ⟨od, hod⟩ : ∃ z, z = (G k).d := ⟨_, rfl⟩
          rw [← hod] at HOL
          rw [← hokd] at c0
          rw [← hoid] at c1
          rw [← hod] at c2
          obtain ⟨S, hS⟩ : ∃ S, S = ByteArray.mk od.toArray := ⟨_, rfl⟩
          rw [← hS] at c2
          obtain ⟨wbx, hwbx⟩ : ∃ wb, wb = wr.alloc (.cells #[.int .i64 okd, .int .i64 oid, .string S] 47) := ⟨_, rfl⟩
          have hbb : wbx.heap[wr.heap.size]? = some (.cells #[.int .i64 okd, .int .i64 oid, .string S] 47) := by rw [hwbx]; exact heap_alloc_new wr _
          have hfb : Fr [] wr wbx := by rw [hwbx]; exact (Fr.refl _ _).alloc _
          have HFX := Lib.hid hfb
          obtain ⟨b0, b1, b2⟩ := trioT hbb
          have HWBX := Lib.hid hwbx
          have HST : Hid (∀ W, Fr [] wbx W → Calls Tryd.prog 20 #[.pointer (some ⟨t, 0, none⟩), .pointer (some ⟨q, 0, none⟩), .agg #[.int .i64 okd, .int .i64 oid, .string S]] W fun e w' => e = .returned (.bool true) ∧ TkPairG B C t q bs cs 2 1 W w') := Lib.hid fun W hW => by
            rw [hS]
            exact step11 B C bs cs W t q 2 1 N2 okd oid od (HP.out.keep (HFX.out.trans hW)) HOL.out (by decide) (by decide) (nib_keep HN.out (HTR.out.fr.trans (HFX.out.trans hW)))
          clear hokd hoid hod hwbx hbb hfb hS
          have hki : (k : Int) < (m : Int) := by omega
          have hk0 : (0 : Int) ≤ (k : Int) := by omega
          have ek : IntKind.i64.wrap ((k : Int) + 1) = (k : Int) + 1 := IntWalk.i64_in _ (by omega)
          go_wp2_with fail
          rw [← HWBX.out]
          clear HWBX c0 c1 c2
          refine (HST.out wbx (Fr.refl _ _)).mono ?_
          rintro e w5 ⟨rfl, bs4, cs4, N4, hp4, hf4⟩
          have HP5 := Lib.hid hp4
          have HT5 := Lib.hid ((HTR.out.keep HFX.out).step hf4.1 (fun i hi => by
            rcases List.mem_append.1 hi with hi | hi
            · have := (HP.out.f.lt i hi).1; have := HBW.out.2; omega
            · have := (HP.out.m.lt i hi).1; have := HCW.out.2; omega) HOF.out.1 HOF.out.2.1 HOF.out.2.2.1 HOF.out.2.2.2.1 HOF.out.2.2.2.2)
          have HO5 : Hid (RZ ∉ bs4 ++ cs4 ∧ WB ∉ bs4 ++ cs4 ∧ gW ∉ bs4 ++ cs4 ∧ Bn ∉ bs4 ++ cs4 ∧ ∀ g, cv.ownBlock = some g → g ∉ bs4 ++ cs4) := Lib.hid (by
            have key : ∀ i, i ∉ bs ++ cs → i < wr.heap.size → i ∉ bs4 ++ cs4 := fun i h1 h2 h3 => by
              rcases hf4.2 i h3 with h | h
              · exact h1 h
              · have := HFX.out.size; omega
            refine ⟨key _ HOF.out.1 (Array.getElem?_eq_some_iff.1 HTR.out.rz).1, key _ HOF.out.2.1 (Array.getElem?_eq_some_iff.1 HTR.out.wb).1, key _ HOF.out.2.2.1 (own_lt HTR.out.wr (g := gW) rfl).2, key _ HOF.out.2.2.2.1 (Array.getElem?_eq_some_iff.1 HTR.out.bn).1, fun g hg => key _ (HOF.out.2.2.2.2 g hg) (own_lt HTR.out.cr hg).2⟩)
          clear hp4 hf4 b0 b1 b2 HST
          go_wp2_with fail
          go_roundw
          case rel => exact ⟨k + 1, bs4, cs4, N4, by omega, by go_num, HP5.out, HT5.out, HO5.out⟩
          case measure => simp [intOf] <;> omega
        · have hki : ¬ (k : Int) < (m : Int) := by omega
          clear hk HP HOF
          go_wp2_with fail
          have hN200 : N.length ≤ 200 := hN200
          refine wp_loop_ghost_k (fun (z : Nat) (ac : Act) (wx : World) => ∃ (r XR : Nat) (Ds : List Nat) (u16 u17 u18 u76 u77 u78 u79 u80 u81 u82 u83 u84 u85 u86 u87 u88 u89 u90 u91 u92 u93 u94 u95 u96 u97 u98 u99 u100 u101 u102 u103 u104 u105 u106 u107 u108 u109 u110 u111 u112 u113 u114 u115 u116 u117 u118 u119 u120 u121 u122 u123 u124 u125 u126 u127 u128 u129 u130 u131 u132 : Value), ac = { tmps := (List.toArray (tkyT sa n sc za m zc RZ t Bn WB q b3 k1 ma mc gW cW k XR N.length w5.heap.size u10 u14 u46 u47 u48 u49 u50 u51 u52 u53 u68 u69 u70 u71 u72 u73 u74 u75 u16 u17 u18 u76 u77 u78 u79 u80 u81 u82 u83 u84 u85 u86 u87 u88 u89 u90 u91 u92 u93 u94 u95 u96 u97 u98 u99 u100 u101 u102 u103 u104 u105 u106 u107 u108 u109 u110 u111 u112 u113 u114 u115 u116 u117 u118 u119 u120 u121 u122 u123 u124 u125 u126 u127 u128 u129 u130 u131 u132)), defers := marks Ds } ∧ r + z = 3 ∧ TaS w RZ WB gW cW Bn cv N wx ∧ wx.heap[XR]? = some (.cells #[.int .i64 r] 3) ∧ w.heap.size ≤ XR ∧ Ds.Nodup ∧ ∀ D ∈ Ds, wx.heap[D]? = some (.deferred (some [])) ∧ w.heap.size ≤ D) 3 ⟨0, wr.heap.size, [], _, _, _, _, _, _, _, _, _, _, _, _, _, _, _, _, _, _, _, _, _, _, _, _, _, _, _, _, _, _, _, _, _, _, _, _, _, _, _, _, _, _, _, _, _, _, _, _, _, _, _, _, _, _, _, _, _, _, _, _, rfl, rfl, HTR.out.keep ((Fr.refl _ _).alloc _), heap_alloc_new wr _, HTR.out.fr.size, List.nodup_nil, fun D hD => absurd hD (by simp)⟩ ?_
          clear HTR
          rintro z ac wx ⟨r, XR, Ds, u16, u17, u18, u76, u77, u78, u79, u80, u81, u82, u83, u84, u85, u86, u87, u88, u89, u90, u91, u92, u93, u94, u95, u96, u97, u98, u99, u100, u101, u102, u103, u104, u105, u106, u107, u108, u109, u110, u111, u112, u113, u114, u115, u116, u117, u118, u119, u120, u121, u122, u123, u124, u125, u126, u127, u128, u129, u130, u131, u132, rfl, hrz, hta, hxr, hxn, hnd, hds⟩ J K hJ hK
          have HJ := Lib.hid hJ
          have HK := Lib.hid hK
          have HTA := Lib.hid hta
          have HXR := Lib.hid hxr
          have HND := Lib.hid hnd
          have HDS := Lib.hid hds
          have vr := cell_of_row _ _ 0 _ _ _ hxr
          simp at vr
          clear hJ hK hta hxr hnd hds
          simp only [tkyT]
          by_cases hr3 : r < 3
          · have hri : (r : Int) < 3 := by omega
            go_wp2_with fail
            obtain ⟨w8, hw8⟩ : ∃ w8, w8 = wx.alloc (.cells #[.int .i64 0] 3) := ⟨_, rfl⟩
            obtain ⟨XA, hXA⟩ : ∃ XA, XA = wx.heap.size := ⟨_, rfl⟩
            rw [← hw8, ← hXA]
            have hf8 : Fr [] wx w8 := by rw [hw8]; exact (Fr.refl _ _).alloc _
            have hxa8 : w8.heap[XA]? = some (.cells #[.int .i64 0] 3) := by rw [hw8, hXA]; exact heap_alloc_new wx _
            have hxx : XA ≠ XR := by have := (Array.getElem?_eq_some_iff.1 HXR.out).1; omega
            have hxw : w.heap.size ≤ XA := by rw [hXA]; exact HTA.out.fr.size
            refine (wpIn_wide (n := 5)).1 ?_
            refine range_wide rfl (enters_of Tryd.func49 (by kernel_rfl) rfl) ?_
            intro fn W1 hlr hD hf1 hsz1
            obtain ⟨D, hDD⟩ : ∃ D, D = w8.heap.size := ⟨_, rfl⟩
            rw [← hDD] at hlr hD hsz1 ⊢
            obtain ⟨R, hR, hlr2⟩ := lp_take hlr
            have hf81 := hf8.trans hf1
            have hilR : ∀ s p, isL (R s p) := fun s p => by rw [hR]; exact isL_lp ..
            have HIL := Lib.hid hilR
            have HST : Hid (TaL w RZ WB gW cW Bn cv N XR r XA D Ds (R .ready none) 0 W1) := Lib.hid ⟨HTA.out.keep hf81, hf81.obj HXR.out (by simp), hf1.obj hxa8 (by simp), hlr2, hilR _ _, fun D' hD' => by
              rcases List.mem_cons.1 hD' with rfl | hD'
              · exact hD
              · exact hf81.obj (HDS.out D' hD').1 (by simp), hxx, hxn, hxw, by rw [hDD]; have := hf8.size; have := HTA.out.fr.size; omega⟩
            have HRR := Lib.hid hR
            have HDN : Hid ((D :: Ds).Nodup) := Lib.hid (List.nodup_cons.2 ⟨fun hm => by have := (Array.getElem?_eq_some_iff.1 (HDS.out D hm).1).1; have := hf8.size; omega, HND.out⟩)
            have HDW : Hid (∀ D' ∈ D :: Ds, w.heap.size ≤ D') := Lib.hid fun D' hD' => by
              rcases List.mem_cons.1 hD' with rfl | hD'
              · exact HST.out.new.2.2
              · exact (HDS.out D' hD').2
            obtain ⟨ca, cc, hcv⟩ : ∃ a c, cv = .slice a N.length c := by
              rcases HTA.out.cr.2 with ⟨e, h0⟩ | ⟨g, cap, cur, e, _⟩
              · exact ⟨none, 0, by rw [h0]; exact e⟩
              · exact ⟨_, _, e⟩
            have HCV := Lib.hid hcv
            clear hcv hw8 hXA hf8 hxa8 hxx hxw hf1 hsz1 hf81 hilR hD hDD vr HXR HTA HDS HND
            refine (AllT1_in 4 (D + 1) Bn W1 ca cc N hN200 (fun id A => ∃ at_, at_ ≤ id ∧ (∀ i, at_ ≤ i → i < id → N.getD i [] = []) ∧ TaL w RZ WB gW cW Bn cv N XR r XA D Ds (R .ready none) at_ A)
              (fun A => r = 1 ∧ ∃ at_, at_ ≤ N.length ∧ TaL w RZ WB gW cW Bn cv N XR r XA D Ds (R .done (some (.exit 6))) at_ A) ?_ ?_ ?_ ?_).mono ?_
            · rintro id A ⟨at_, -, -, h⟩
              have h1 := cell_of_row _ _ 0 _ _ _ h.s.bn
              have h2 := h.s.cr
              rw [HCV.out] at h1 h2
              exact ⟨h1, _, h2⟩
            · exact ⟨0, Nat.le_refl _, fun i _ h => absurd h (by omega), HST.out⟩
            · rintro id A ⟨at_, h1, h2, h3⟩ hid he
              exact ⟨at_, by omega, fun i hi hlt => by
                by_cases e : i = id
                · rw [e]; exact he
                · exact h2 i hi (by omega), h3⟩
            · rintro id A W2 ⟨at_, ha1, ha2, hst⟩ hid hne hfA
              have h2 := hst.keep hfA
              have hl2 := h2.lp
              rw [hR] at hl2
              have HS2 := Lib.hid h2
              have HEM := Lib.hid ha2
              have HNE := Lib.hid hne
              clear hlr hlr2 hst hfA h2 ha2 hne HST hR
              obtain ⟨x, hx⟩ : ∃ x, x = N.getD id [] := ⟨_, rfl⟩
              rw [← hx] at HNE
              have hsx : Str x = .string ⟨x.toArray⟩ := rfl
              obtain ⟨X, hX⟩ : ∃ X, X = ByteArray.mk x.toArray := ⟨_, rfl⟩
              rw [← hx, hsx, ← hX]
              have hnl : X.toList.isEmpty = false := by rw [hX, ByteArray.toList_mk]; simpa using HNE.out
              have HXN : Hid (Str (N.getD id []) = .string X) := Lib.hid (by rw [← hx, hX]; rfl)
              clear hX hsx hx
              refine yield_wide hl2 rfl ?_
              have HL2 := Lib.hid hl2
              clear hl2
              gi_wp2_with fail
              refine ⟨HL2.out, ?_⟩
              generalize hWb : World.putObj W2 (D + 1) _ = Wb
              have HSB : Hid (TaL w RZ WB gW cW Bn cv N XR r XA D Ds (R .busy none) at_ Wb) := Lib.hid (by
                have h := HS2.out.putL (o' := R .busy none) (HIL.out _ _)
                rw [← hWb]
                rw [HRR.out] at h ⊢
                exact h)
              clear hWb
              gi_wp2_with fail
              gi_loopw [83] (fun _ wr => ∃ at_, at_ ≤ id ∧ (∀ i, at_ ≤ i → i < id → N.getD i [] = []) ∧ TaL w RZ WB gW cW Bn cv N XR r XA D Ds (R .busy none) at_ wr) (fun _ wr => id - cellN wr XA)
              case atStart => exact ⟨at_, ha1, HEM.out, HSB.out⟩
              case round =>
                obtain ⟨a2, hb1, hb2, hl2⟩ := hrel
                have HEM2 := Lib.hid hb2
                have HLX := Lib.hid hl2
                clear hb2 hl2 HSB HEM ha1 HS2
                obtain ⟨v0, v1, v2, v4⟩ := HLX.out.cells
                have hxa : XA < wr.heap.size := (Array.getElem?_eq_some_iff.1 HLX.out.xa).1
                have hki : (a2 : Int) < (N.length : Int) := by omega
                have hk0 : (0 : Int) ≤ (a2 : Int) := by omega
                have ek : IntKind.i64.wrap ((a2 : Int) + 1) = (a2 : Int) + 1 := IntWalk.i64_in _ (by omega)
                by_cases hlt : a2 < id
                · have hem := HEM2.out a2 (Nat.le_refl _) hlt
                  have vn := HLX.out.name (show a2 < N.length by omega)
                  rw [hem, show Str [] = .string ⟨#[]⟩ from rfl] at vn
                  have hna := HLX.out.setA (a2 + 1)
                  have m1 : cellN wr XA = a2 := cellN_eq v1
                  have m2 : cellN (wr.setCell ⟨XA, 0, none⟩ (.int .i64 ((a2 + 1 : Nat) : Int))) XA = a2 + 1 := cellN_eq (cell_of_row _ _ 0 _ _ _ hna.xa)
                  have HM := Lib.hid (show cellN (wr.setCell ⟨XA, 0, none⟩ (.int .i64 ((a2 + 1 : Nat) : Int))) XA = a2 + 1 ∧ cellN wr XA = a2 from ⟨m2, m1⟩)
                  have HNA := Lib.hid hna
                  clear hem hna m1 m2
                  gi_wp2_with fail
                  rw [show ((a2 : Int) + 1) = ((a2 + 1 : Nat) : Int) by omega]
                  refine ⟨⟨a2 + 1, by omega, fun i h1 h2 => HEM2.out i (by omega) h2, HNA.out⟩, ?_⟩
                  rw [HM.out.1, HM.out.2]
                  omega
                · obtain rfl : id = a2 := by omega
                  have vn := HLX.out.name hid
                  rw [HXN.out] at vn
                  have hni : ¬ (N.length : Int) ≤ (id : Int) := by omega
                  have hii : ((id : Int) != (id : Int)) = false := by simp
                  have HNA := Lib.hid (HLX.out.setA (id + 1))
                  have v5 := HNA.out.cells.1
                  rw [show ((id + 1 : Nat) : Int) = (id : Int) + 1 by omega] at v5
                  by_cases hr1 : r = 1
                  · have hri1 : ((r : Int) == 1) = true := by rw [beq_iff_eq]; omega
                    have HR1 := Lib.hid hr1
                    clear hr1
                    gi_wp2_with fail
                    rw [← HRR.out, show ((id : Int) + 1) = ((id + 1 : Nat) : Int) by omega]
                    exact ⟨HNA.out.lp, .inr ⟨rfl, HR1.out, id + 1, by omega, HNA.out.putL (HIL.out _ _)⟩⟩
                  · have hri1 : ((r : Int) == 1) = false := by rw [beq_eq_false_iff_ne]; omega
                    clear hr1
                    gi_wp2_with fail
                    rw [← HRR.out, show ((id : Int) + 1) = ((id + 1 : Nat) : Int) by omega]
                    exact ⟨HNA.out.lp, .inl ⟨rfl, id + 1, by omega, fun i h1 h2 => absurd h1 (by omega), HNA.out.putL (HIL.out _ _)⟩⟩
            · rintro e W2 ⟨⟨vv, rfl⟩, (⟨A, ⟨at_, ha1, ha2, hst⟩, hfA⟩ | ⟨hr1, at_, ha1, hst⟩)⟩
              · refine ⟨⟨_, rfl⟩, .inl ?_⟩
                have h2 := hst.keep hfA
                have hl2 := h2.lp
                rw [hR] at hl2
                refine ⟨hl2, ?_⟩
                generalize hWb : World.putObj W2 (D + 1) _ = Wb
                have HLB : Hid (TaL w RZ WB gW cW Bn cv N XR r XA D Ds (R .exhausted none) at_ Wb) := Lib.hid (by
                  have h := h2.putL (o' := R .exhausted none) (HIL.out _ _)
                  rw [← hWb]
                  rw [HRR.out] at h ⊢
                  exact h)
                have HEM : Hid (r ≠ 1 → ∀ i, at_ ≤ i → i < N.length → N.getD i [] = []) := Lib.hid fun _ => ha2
                have HAL := Lib.hid ha1
                clear hWb hl2 h2 hfA hlr hlr2 HST hst ha1 ha2 hR
                by_cases hr1 : r = 1
                · subst hr1
                  obtain ⟨v0, v1, v2, -⟩ := HLB.out.cells
                  go_wp2_with fail
                  go_loopw [117] (fun _ wx => TaL w RZ WB gW cW Bn cv N XR 1 XA D Ds (R .exhausted none) at_ wx) (fun _ _ => 0)
                  case atStart => exact HLB.out
                  case round =>
                    have HLX := Lib.hid hrel
                    clear hrel HLB v0 v1 v2
                    obtain ⟨v0, v1, v2, -⟩ := HLX.out.cells
                    have v3 : (wr.alloc (.cells #[.int .i64 1] 3)).cell? ⟨wr.heap.size, 0, none⟩ = some (.int .i64 1) := cell_of_row _ _ 0 _ _ _ (heap_alloc_new wr _)
                    go_wp2_with fail
                    try rw [show ((1 : Int) + 1) = ((2 : Nat) : Int) by omega]
                    refine HK.out _ _ (Handed.intro (z - 1) (by omega) (HJ.out _ _ _ ⟨2, wr.heap.size, D :: Ds, _, _, _, _, _, _, _, _, _, _, _, _, _, _, _, _, _, _, _, _, _, _, _, _, _, _, _, _, _, _, _, _, _, _, _, _, _, _, _, _, _, _, _, _, _, _, _, _, _, _, _, _, _, _, _, _, _, _, _, _, rfl, by omega, HLX.out.s.keep ((Fr.refl _ _).alloc _), ?_, HLX.out.s.fr.size, HDN.out, fun D' hD' => ⟨((Fr.refl [] wr).alloc _).obj (HLX.out.df D' hD') (by simp), HDW.out D' hD'⟩⟩))
                    exact heap_alloc_new wr _
                · have hri1 : ((r : Int) != 1) = true := by rw [bne_iff_ne]; omega
                  have HEM2 := Lib.hid (HEM.out hr1)
                  obtain ⟨v0, v1, v2, -⟩ := HLB.out.cells
                  go_wp2_with fail
                  go_loopw [117] (fun _ wx => ∃ a2 : Nat, at_ ≤ a2 ∧ a2 ≤ N.length ∧ TaL w RZ WB gW cW Bn cv N XR r XA D Ds (R .exhausted none) a2 wx) (fun _ wx => N.length - cellN wx XA)
                  case atStart => exact ⟨at_, Nat.le_refl _, HAL.out, HLB.out⟩
                  case round =>
                    obtain ⟨a2, ha1, ha2, hl2⟩ := hrel
                    have HLX := Lib.hid hl2
                    clear hl2 HLB v0 v1 v2
                    obtain ⟨v0, v1, v2, v4⟩ := HLX.out.cells
                    by_cases hlt : a2 < N.length
                    · have hem := HEM2.out a2 ha1 hlt
                      have vn := HLX.out.name hlt
                      rw [hem, show Str [] = .string ⟨#[]⟩ from rfl] at vn
                      have hki : (a2 : Int) < (N.length : Int) := by omega
                      have hk0 : (0 : Int) ≤ (a2 : Int) := by omega
                      have ek : IntKind.i64.wrap ((a2 : Int) + 1) = (a2 : Int) + 1 := IntWalk.i64_in _ (by omega)
                      have hxa : XA < wr.heap.size := (Array.getElem?_eq_some_iff.1 HLX.out.xa).1
                      clear hem
                      go_wp2_with fail
                      go_roundw
                      case rel => exact ⟨a2 + 1, by omega, by omega, HLX.out.setA (a2 + 1)⟩
                      case measure =>
                        have m1 : cellN wr XA = a2 := cellN_eq v1
                        have m2 : cellN (wr.setCell ⟨XA, 0, none⟩ (.int .i64 ((a2 + 1 : Nat) : Int))) XA = a2 + 1 := cellN_eq (cell_of_row _ _ 0 _ _ _ (HLX.out.setA (a2 + 1)).xa)
                        rw [m1]
                        exact (by rw [show ((a2 : Int) + 1) = ((a2 + 1 : Nat) : Int) by omega, m2]; omega)
                    · have hki : ¬ (a2 : Int) < (N.length : Int) := by omega
                      have v3 : (wr.alloc (.cells #[.int .i64 r] 3)).cell? ⟨wr.heap.size, 0, none⟩ = some (.int .i64 r) := cell_of_row _ _ 0 _ _ _ (heap_alloc_new wr _)
                      have er : IntKind.i64.wrap ((r : Int) + 1) = (r : Int) + 1 := IntWalk.i64_in _ (by omega)
                      go_wp2_with fail
                      try rw [show ((r : Int) + 1) = ((r+1 : Nat) : Int) by omega]
                      refine HK.out _ _ (Handed.intro (z - 1) (by omega) (HJ.out _ _ _ ⟨r+1, wr.heap.size, D :: Ds, _, _, _, _, _, _, _, _, _, _, _, _, _, _, _, _, _, _, _, _, _, _, _, _, _, _, _, _, _, _, _, _, _, _, _, _, _, _, _, _, _, _, _, _, _, _, _, _, _, _, _, _, _, _, _, _, _, _, _, _, rfl, by omega, HLX.out.s.keep ((Fr.refl _ _).alloc _), ?_, HLX.out.s.fr.size, HDN.out, fun D' hD' => ⟨((Fr.refl [] wr).alloc _).obj (HLX.out.df D' hD') (by simp), HDW.out D' hD'⟩⟩))
                      exact heap_alloc_new wr _
              · refine ⟨⟨_, rfl⟩, .inr ?_⟩
                have hl2 := hst.lp
                rw [hR] at hl2
                refine ⟨.exit 6, hl2, ?_⟩
                generalize hWb : World.putObj W2 (D + 1) _ = Wb
                have HLB : Hid (TaL w RZ WB gW cW Bn cv N XR r XA D Ds (R .exhausted (some (.exit 6))) at_ Wb) := Lib.hid (by
                  have h := hst.putL (o' := R .exhausted (some (.exit 6))) (HIL.out _ _)
                  rw [← hWb]
                  rw [HRR.out] at h ⊢
                  exact h)
                clear hWb hl2 hlr hlr2 HST hst ha1 hR
                subst hr1
                obtain ⟨v0, v1, v2, -⟩ := HLB.out.cells
                gi_wp2_with fail
                go_wp2_with fail
                go_loopw [117] (fun _ wx => TaL w RZ WB gW cW Bn cv N XR 1 XA D Ds (R .exhausted (some (.exit 6))) at_ wx) (fun _ _ => 0)
                case atStart => exact HLB.out
                case round =>
                  have HLX := Lib.hid hrel
                  clear hrel HLB v0 v1 v2
                  obtain ⟨v0, v1, v2, -⟩ := HLX.out.cells
                  have v3 : (wr.alloc (.cells #[.int .i64 1] 3)).cell? ⟨wr.heap.size, 0, none⟩ = some (.int .i64 1) := cell_of_row _ _ 0 _ _ _ (heap_alloc_new wr _)
                  go_wp2_with fail
                  try rw [show ((1 : Int) + 1) = ((2 : Nat) : Int) by omega]
                  refine HK.out _ _ (Handed.intro (z - 1) (by omega) (HJ.out _ _ _ ⟨2, wr.heap.size, D :: Ds, _, _, _, _, _, _, _, _, _, _, _, _, _, _, _, _, _, _, _, _, _, _, _, _, _, _, _, _, _, _, _, _, _, _, _, _, _, _, _, _, _, _, _, _, _, _, _, _, _, _, _, _, _, _, _, _, _, _, _, _, rfl, by omega, HLX.out.s.keep ((Fr.refl _ _).alloc _), ?_, HLX.out.s.fr.size, HDN.out, fun D' hD' => ⟨((Fr.refl [] wr).alloc _).obj (HLX.out.df D' hD') (by simp), HDW.out D' hD'⟩⟩))
                  exact heap_alloc_new wr _
          · obtain rfl : r = 3 := by omega
            have g1 := cell_of_row _ _ 0 _ _ _ HTA.out.rz
            simp at g1
            have f1 : wx.frozen? ⟨RZ, 0, none⟩ = false := frozen_of_row _ _ 0 _ _ HTA.out.rz
            have hlz : RZ < wx.heap.size := (Array.getElem?_eq_some_iff.1 HTA.out.rz).1
            go_wp2_with fail
            have hfz : Fr [RZ] wx (wx.setCell ⟨RZ, 0, none⟩ (.bool true)) := (Fr.refl _ _).setCell (by simp) _
            have hz : (wx.setCell ⟨RZ, 0, none⟩ (.bool true)).heap[RZ]? = some (.cells #[.bool true] 4) := by rw [heap_setCell_same _ _ 0 _ _ _ HTA.out.rz]; rfl
            have hno : RZ ∉ Ds := fun hm => obj_ne HTA.out.rz (HDS.out RZ hm).1 (by simp) rfl
            refine marks_ret (Ds := Ds) (fun D hD => hfz.obj (HDS.out D hD).1 (by simp; exact fun e => hno (by rw [← e]; exact hD))) HND.out (fun W' hW' => ⟨results_cT rfl _ _ ⟨RZ, 0, none⟩ _ rfl (load_bT (hW'.obj hz hno)), rfl, ?_⟩)
            exact frNewT (frNewT HTA.out.fr hfz (fun i hi => by simp at hi; rw [hi]; exact HTA.out.new)) hW' (fun i hi => (HDS.out i hi).2)
end Go.Proofs.YtlckhfjkdahfpaaDoor
