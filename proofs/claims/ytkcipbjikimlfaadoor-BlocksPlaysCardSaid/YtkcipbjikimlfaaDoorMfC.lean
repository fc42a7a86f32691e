/- The document's record files: Put, Alloc, Free. -/
import Derived.Test.YtkcipbjikimlfaaDoorMfB
import Derived.Test.YtkcipbjikimlfaaDoorLate
import Derived.Test.YtkcipbjikimlfaaDoorRfK
namespace Go.Proofs.YtkcipbjikimlfaaDoor
open Go.RowKit
attribute [local go_sem ↓] Go.wp_at_zero Go.wp_at_succ
theorem bx_news2 {w : World} {b : Nat} {x y : Value} {T : Nat} (h : w.heap[b]? = some (.cells #[x, y] T)) : ∀ a, some (⟨b, 0, none⟩ : Addr) = some a → ∀ (j : Nat) (u : Value), [x, y][j]? = some u → w.cell? (a.add j) = some u := by
  intro a ha j u hj
  cases ha
  match j with
  | 0 =>
    have h1 := cell_of_row w b 0 _ _ _ h
    simp at h1 hj
    subst hj
    exact h1
  | 1 =>
    have h1 := cell_of_row w b 1 _ _ _ h
    simp at h1 hj
    subst hj
    exact h1
  | j + 2 => simp at hj
/-- records that aren't in use are laid behind -/
def RFS.pad (s : RFS) (j : Nat) : RFS := { s with R := s.R ++ List.replicate j none }
theorem RFS.pad_zero (s : RFS) : s.pad 0 = s := by unfold RFS.pad; simp
theorem RFS.pad_succ (s : RFS) (j : Nat) : s.pad (j + 1) = { s.pad j with R := (s.pad j).R ++ [none] } := by
  unfold RFS.pad
  rw [List.replicate_succ', List.append_assoc]
theorem RFS.Ok.snoc {s : RFS} (h : s.Ok) {o : Option (List UInt8)} (hl : s.R.length < 65536) (ho : ∀ d, o = some d → d.length + 1 = s.sz) : RFS.Ok { s with R := s.R ++ [o] } := by
  refine ⟨h.kd, h.vr, h.lo, h.hi, by simp; omega, fun d hd => ?_, fun i hi => ?_⟩
  · rcases List.mem_append.1 hd with hd | hd
    · exact h.dat d hd
    · exact ho d (List.mem_singleton.1 hd).symm
  · obtain ⟨d, hd⟩ := h.low i hi
    refine ⟨d, ?_⟩
    show (s.R ++ [o])[i]? = _
    rw [List.getElem?_append_left (List.getElem?_eq_some_iff.1 hd).1]
    exact hd
/-- a record more -/
theorem MFH.app {w w' : World} {B p : Nat} {v v' : Value} {X : List RI} {s : RFS} {y : RI} {o : Option (List UInt8)} (h : MFH w B p v X s) (hy : w.ownsRow B 5 1 y.v y.d.length (y.d.map B8)) (ha : App w w' B 36 2 v v' X.length 1 (riCells X) [.bool y.u, y.v])
    (hyo : ∀ g, y.v.ownBlock = some g → v.ownBlock ≠ some g) (hp : y.p = docO s.sz o) (hl : s.R.length < 65536) (ho : ∀ d, o = some d → d.length + 1 = s.sz) :
    MFH (w'.setCell ⟨p, 3, none⟩ v') B p v' (X ++ [y]) { s with R := s.R ++ [o] } ∧ Fr (mfB p v X) w (w'.setCell ⟨p, 3, none⟩ v') ∧ ∀ i ∈ mfB p v' (X ++ [y]), i ∈ mfB p v X ∨ w.heap.size ≤ i ∨ y.v.ownBlock = some i := by
  have hf := app_frZ ha
  have hob : w'.heap[p]? = some (.cells #[.int .i64 s.kd, .int .i64 s.vr, .int .i64 s.sz, v] 33) := hf.obj h.obj (fun hm => h.ne (by simpa using hm))
  have hr := h.recs.app hy ha hyo
  have hpn : p ∉ mlB v' (X ++ [y]) := by
    intro hm
    rcases mlB_app ha hm with h1 | h1 | h1
    · exact h.offB h1
    · have := (Array.getElem?_eq_some_iff.1 h.obj).1; omega
    · exact own_ne hy h.obj (by decide) h1
  refine ⟨⟨?_, hr.fr ((Fr.refl [p] w').setCell (p := ⟨p, 3, none⟩) (by simp) _) (fun i hi hm => by simp at hm; subst hm; exact hpn hi), ?_, h.ok.snoc hl ho, h.base⟩, ?_, ?_⟩
  · rw [heap_setCell_same w' p 3 _ _ _ hob]
    rfl
  · rw [List.map_append, h.opt, List.map_append]
    show _ ++ [y.p] = _ ++ [docO s.sz o]
    rw [hp]
  · have hm : Fr (mfB p v X) w w' := hf.mono fun i hi _ => List.mem_cons_of_mem _ (mlB_v (by simpa using hi))
    exact hm.setCell (p := ⟨p, 3, none⟩) (fun _ => List.mem_cons_self) _
  · intro i hi
    rcases List.mem_cons.1 hi with rfl | hi
    · exact .inl List.mem_cons_self
    · rcases mlB_app ha hi with h1 | h1
      · exact .inl (List.mem_cons_of_mem _ h1)
      · exact .inr h1
/-- a record is laid anew -/
theorem MFH.set {w : World} {B p g n c id lw : Nat} {X : List RI} {s : RFS} {y : RI} {o : Option (List UInt8)} (h : MFH w B p (.slice (some ⟨g, 0, none⟩) n c) X s) (hy : w.ownsRow B 5 1 y.v y.d.length (y.d.map B8)) (hp : y.p = docO s.sz o) (hok : RFS.Ok { s with R := s.R.set id o, low := lw }) :
    MFH ((w.setCell ⟨g, id * 2, none⟩ (.bool y.u)).setCell ⟨g, id * 2 + 1, none⟩ y.v) B p (.slice (some ⟨g, 0, none⟩) n c) (X.set id y) { s with R := s.R.set id o, low := lw } ∧ Fr [g] w ((w.setCell ⟨g, id * 2, none⟩ (.bool y.u)).setCell ⟨g, id * 2 + 1, none⟩ y.v) ∧
      ∀ i ∈ mfB p (.slice (some ⟨g, 0, none⟩) n c) (X.set id y), i ∈ mfB p (.slice (some ⟨g, 0, none⟩) n c) X ∨ y.v.ownBlock = some i := by
  have hf : Fr [g] w ((w.setCell ⟨g, id * 2, none⟩ (.bool y.u)).setCell ⟨g, id * 2 + 1, none⟩ y.v) := ((Fr.refl [g] w).setCell (by simp) _).setCell (by simp) _
  have hne : p ≠ g := fun e => h.ne (by rw [e]; rfl)
  refine ⟨⟨hf.obj h.obj (by simpa using hne), h.recs.set hy, ?_, hok, h.base⟩, hf, ?_⟩
  · rw [List.map_set, h.opt, hp]
    show (s.R.map (docO s.sz)).set id (docO s.sz o) = (s.R.set id o).map (docO s.sz)
    rw [List.map_set]
  · intro i hi
    rcases List.mem_cons.1 hi with rfl | hi
    · exact .inl List.mem_cons_self
    · rcases mlB_set hi with h1 | h1
      · exact .inl (List.mem_cons_of_mem _ h1)
      · exact .inr h1
def lenAt (p : Nat) (w : World) : Nat := match w.cell? ⟨p, 3, none⟩ with | some (.slice _ n _) => n | _ => 0
theorem lenAt_eq {p n c : Nat} {a : Option Addr} {w : World} (h : w.cell? ⟨p, 3, none⟩ = some (.slice a n c)) : lenAt p w = n := by unfold lenAt; rw [h]
set_option maxRecDepth 100000 in
set_option maxHeartbeats 1600000 in
theorem Put9 (B : Nat) (bs : List Nat) (w : World) (p : Nat) (s : RFS) (id : Int) (la : Option Addr) (lc : Nat) (l : List UInt8) (h : MF B bs w p s) (hl : l.length ≤ 140737488351300) (hb : Bytes w la l) (hoff : ∀ ad, la = some ad → ad.block ∉ bs) :
    Calls Tryd.prog 50 #[.pointer (some ⟨p, 0, none⟩), .int .i64 id, .slice la l.length lc] w fun e w' => e = .returned (.int .i64 (putE s id l.length)) ∧ ∃ bs', MF B bs' w' p (putS s id l) ∧ Stp bs w bs' w' := by
  have hok := h.ok
  have HMF := Lib.hid h
  obtain ⟨v0, X0, h, rfl⟩ := h
  obtain ⟨x0, x1, x2, x3⟩ := four h.obj
  have HB0 := Lib.hid hb
  have HOFF := Lib.hid hoff
  have hlo := hok.lo
  have hhi := hok.hi
  clear hb hoff
  by_cases h1 : id < 0
  · have HE := Lib.hid (putE_id (s := s) (id := id) (n := l.length) (.inl h1))
    have HS := Lib.hid (putS_not (s := s) (d := l) (id := id) (by rw [HE.out]; decide))
    clear h hok
    go_enter Tryd.func50, Tryd.ntmps50
    go_wp2
    go_ret
    exact ⟨by rw [HE.out]; rfl, _, by rw [HS.out]; exact HMF.out, Stp.refl _ _⟩
  by_cases h2 : 65536 ≤ id
  · have HE := Lib.hid (putE_id (s := s) (id := id) (n := l.length) (.inr h2))
    have HS := Lib.hid (putS_not (s := s) (d := l) (id := id) (by rw [HE.out]; decide))
    clear h hok
    go_enter Tryd.func50, Tryd.ntmps50
    go_wp2
    go_ret
    exact ⟨by rw [HE.out]; rfl, _, by rw [HS.out]; exact HMF.out, Stp.refl _ _⟩
  obtain ⟨m, hm⟩ : ∃ m, m = s.sz - 1 := ⟨_, rfl⟩
  have e1 : IntKind.i64.wrap ((s.sz : Int) - 1) = (m : Int) := by rw [IntWalk.i64_in _ (by omega)]; omega
  have HM1 := Lib.hid hm
  by_cases h3 : l.length = m
  · obtain ⟨k, rfl⟩ : ∃ k : Nat, id = k := ⟨id.toNat, by omega⟩
    have HE := Lib.hid (putE_ok (s := s) (id := (k : Int)) (n := l.length) (by omega) (by omega))
    have HS : Hid (putS s (k : Int) l = s.put k l) := Lib.hid (by unfold putS; rw [HE.out, if_pos rfl]; rfl)
    subst h3
    have HMB : Hid (l.length ≤ 1000000) := Lib.hid (by omega)
    have HMZ : Hid (s.sz - 1 = l.length) := Lib.hid (by omega)
    have HH := Lib.hid h
    have HLB := Lib.hid hl
    have HOK := Lib.hid hok
    have HPUTOK : Hid ((s.put k l).Ok) := Lib.hid (hok.put (by omega) (by omega))
    have hk65 : k < 65536 := by omega
    have HRL0 := Lib.hid hok.len
    clear h hok hm HM1 hl x0 x1 hlo hhi h1 h2
    go_enter Tryd.func50, Tryd.ntmps50
    go_wp2_with fail
    clear x2 x3
    go_loopw [] (fun wr => ∃ (j : Nat) (v : Value) (X : List RI), MFH wr B p v X (s.pad j) ∧ Stp (mfB p v0 X0) w (mfB p v X) wr ∧ (j = 0 ∨ s.R.length + j ≤ k + 1)) (fun wr => k + 1 - lenAt p wr)
    case atStart => exact ⟨0, v0, X0, by rw [RFS.pad_zero]; exact HH.out, Stp.refl _ _, .inl rfl⟩
    case round =>
      obtain ⟨j, v, X, hmf, hst, hj⟩ := hrel
      obtain ⟨x0, x1, x2, x3⟩ := four hmf.obj
      obtain ⟨a, c, rfl, -⟩ := hmf.recs.sl
      have hlen := hmf.len
      have hpl : (s.pad j).R.length = s.R.length + j := by unfold RFS.pad; simp
      replace x2 : wr.cell? ⟨p, 2, none⟩ = some (.int .i64 s.sz) := x2
      have HM := Lib.hid hmf
      have HST := Lib.hid hst
      have HLA := Lib.hid (lenAt_eq x3)
      have HBW : Hid (B ≤ wr.heap.size) := Lib.hid (by have := (hmf.lt p List.mem_cons_self); omega)
      by_cases hlt : X.length ≤ k
      · have hki : (X.length : Int) ≤ (k : Int) := by omega
        have hXb : X.length ≤ 65536 := by omega
        have HRL : Hid ((s.pad j).R.length < 65536) := Lib.hid (by omega)
        have HJ : Hid (j + 1 = 0 ∨ s.R.length + (j + 1) ≤ k + 1) := Lib.hid (by omega)
        clear hmf hst hj hlen hpl x0 x1
        go_upto_region 6 with fail
        refine region_late (fun w' => w'.cell? ⟨p, 3, none⟩ = some (.slice a X.length c) ∧ w'.cell? ⟨p, 2, none⟩ = some (.int .i64 s.sz)) [16] (by kernel_rfl) (by exact ⟨x3, x2⟩) (fun hHd0 => ?_)
        refine wpAnyL_pure (i := 0) (v := ?_) rfl (by kernel_rfl) (by kernel_rfl) (by kernel_rfl) (by kernel_rfl) (by kernel_rfl) (fun _ _ _ h => h) (Or.inl ⟨by rfl, ?_⟩) (fun _ => hHd0) ?_
        rotate_left
        · (intro w _; go_simp; (try with_reducible rfl))
        try simp only [Act.put, List.setIfInBounds_toArray, List.set_cons_zero, List.set_cons_succ, List.getElem_toArray, List.getElem_cons_zero, List.getElem_cons_succ]
        refine wpAnyL_pure (i := 1) (v := ?_) rfl (by kernel_rfl) (by kernel_rfl) (by kernel_rfl) (by kernel_rfl) (by kernel_rfl) (fun _ _ _ h => h) (Or.inl ⟨by rfl, ?_⟩) (fun _ => hHd0) ?_
        rotate_left
        · (intro w _; go_simp; (try with_reducible rfl))
        try simp only [Act.put, List.setIfInBounds_toArray, List.set_cons_zero, List.set_cons_succ, List.getElem_toArray, List.getElem_cons_zero, List.getElem_cons_succ]
        refine wpAnyL_pure (i := 2) (v := ?_) rfl (by kernel_rfl) (by kernel_rfl) (by kernel_rfl) (by kernel_rfl) (by kernel_rfl) (fun _ _ _ h => h) (Or.inl ⟨by rfl, ?_⟩) (fun _ => hHd0) ?_
        rotate_left
        · (intro w _; go_simp; (try with_reducible rfl))
        try simp only [Act.put, List.setIfInBounds_toArray, List.set_cons_zero, List.set_cons_succ, List.getElem_toArray, List.getElem_cons_zero, List.getElem_cons_succ]
        refine wpAnyL_pure (i := 3) (v := ?_) rfl (by kernel_rfl) (by kernel_rfl) (by kernel_rfl) (by kernel_rfl) (by kernel_rfl) (fun _ _ _ h => h) (Or.inl ⟨by rfl, ?_⟩) (fun _ => hHd0) ?_
        rotate_left
        · (intro w _; go_simp; (try with_reducible rfl))
        try simp only [Act.put, List.setIfInBounds_toArray, List.set_cons_zero, List.set_cons_succ, List.getElem_toArray, List.getElem_cons_zero, List.getElem_cons_succ]
        refine wpAnyL_take (i := 4) (v := ?_) rfl (by kernel_rfl) (by kernel_rfl) (by kernel_rfl) (by kernel_rfl) (by kernel_rfl) (fun _ _ _ h => h) (Or.inl ⟨by rfl, ?_⟩) hHd0 ?_
        rotate_left
        · (intro w hSw; (try dsimp only at hSw); go_simp; (try with_reducible rfl))
        try simp only [Act.put, List.setIfInBounds_toArray, List.set_cons_zero, List.set_cons_succ, List.getElem_toArray, List.getElem_cons_zero, List.getElem_cons_succ]
        refine wpAnyL_pure (i := 5) (v := ?_) rfl (by kernel_rfl) (by kernel_rfl) (by kernel_rfl) (by kernel_rfl) (by kernel_rfl) (fun _ _ _ h => h) (Or.inl ⟨by rfl, ?_⟩) (fun _ => hHd0) ?_
        rotate_left
        · (intro w _; go_simp; (try with_reducible rfl))
        try simp only [Act.put, List.setIfInBounds_toArray, List.set_cons_zero, List.set_cons_succ, List.getElem_toArray, List.getElem_cons_zero, List.getElem_cons_succ]
        refine wpAnyL_pure (i := 6) (v := ?_) rfl (by kernel_rfl) (by kernel_rfl) (by kernel_rfl) (by kernel_rfl) (by kernel_rfl) (fun _ _ _ h => h) (Or.inl ⟨by rfl, ?_⟩) (fun _ => hHd0) ?_
        rotate_left
        · (intro w _; go_simp; (try with_reducible rfl))
        try simp only [Act.put, List.setIfInBounds_toArray, List.set_cons_zero, List.set_cons_succ, List.getElem_toArray, List.getElem_cons_zero, List.getElem_cons_succ]
        refine wpAnyL_pure (i := 7) (v := ?_) rfl (by kernel_rfl) (by kernel_rfl) (by kernel_rfl) (by kernel_rfl) (by kernel_rfl) (fun _ _ _ h => h) (Or.inl ⟨by rfl, ?_⟩) (fun _ => hHd0) ?_
        rotate_left
        · (intro w _; go_simp; (try with_reducible rfl))
        try simp only [Act.put, List.setIfInBounds_toArray, List.set_cons_zero, List.set_cons_succ, List.getElem_toArray, List.getElem_cons_zero, List.getElem_cons_succ]
        refine wpAnyL_take (i := 8) (v := ?_) rfl (by kernel_rfl) (by kernel_rfl) (by kernel_rfl) (by kernel_rfl) (by kernel_rfl) (fun _ _ _ h => h) (Or.inl ⟨by rfl, ?_⟩) hHd0 ?_
        rotate_left
        · (intro w hSw; (try dsimp only at hSw); go_simp; (try with_reducible rfl))
        try simp only [Act.put, List.setIfInBounds_toArray, List.set_cons_zero, List.set_cons_succ, List.getElem_toArray, List.getElem_cons_zero, List.getElem_cons_succ]
        refine wpAnyL_take (i := 9) (v := ?_) rfl (by kernel_rfl) (by kernel_rfl) (by kernel_rfl) (by kernel_rfl) (by kernel_rfl) (fun _ _ _ h => h) (Or.inl ⟨by rfl, ?_⟩) hHd0 ?_
        rotate_left
        · (intro w hSw; (try dsimp only at hSw); go_simp; (try with_reducible rfl))
        try simp only [Act.put, List.setIfInBounds_toArray, List.set_cons_zero, List.set_cons_succ, List.getElem_toArray, List.getElem_cons_zero, List.getElem_cons_succ]
        refine wpAnyL_ready (rs := [10]) (by kernel_rfl) (by simp) ?_
        refine (AllReadyL.cons rfl (fun K hK => ?_) AllReadyL.nil)
        go_simp
        refine (zeros_F l.length HMB.out wr.drew).mono ?_
        rintro e w5 ⟨cv, rfl, hcv⟩
        obtain ⟨gd, gc, rfl, hgd, hgl, hco, hcf⟩ := hcv
        rw [zs_length] at hco ⊢
        have HCO := Lib.hid hco
        have HCF := Lib.hid (((Fr.refl [] wr).drew).trans hcf)
        have HGD := Lib.hid (show wr.heap.size ≤ gd from hgd)
        clear hco hcf hgd hgl
        go_simp
        refine hK.out _ _ (by exact ⟨HCF.out.cell x3 (by simp), HCF.out.cell x2 (by simp)⟩) (fun hHd1 => ?_)
        clear hK K hHd0
        try simp only [Act.put, List.setIfInBounds_toArray, List.set_cons_zero, List.set_cons_succ, List.getElem_toArray, List.getElem_cons_zero, List.getElem_cons_succ]
        refine wpAnyL_take (i := 11) (v := ?_) rfl (by kernel_rfl) (by kernel_rfl) (by kernel_rfl) (by kernel_rfl) (by kernel_rfl) (fun _ _ _ h => h) (Or.inl ⟨by rfl, ?_⟩) hHd1 ?_
        rotate_left
        · (intro w hSw; (try dsimp only at hSw); go_simp; (try with_reducible rfl))
        try simp only [Act.put, List.setIfInBounds_toArray, List.set_cons_zero, List.set_cons_succ, List.getElem_toArray, List.getElem_cons_zero, List.getElem_cons_succ]
        refine wpAnyL_ready (rs := [12]) (by kernel_rfl) (by simp) ?_
        refine (AllReadyL.cons rfl (fun K hK => ?_) AllReadyL.nil)
        go_simp
        refine hK.out _ _ (by exact ⟨(HCF.out.alloc _).cell x3 (by simp), (HCF.out.alloc _).cell x2 (by simp)⟩) (fun hHd2 => ?_)
        clear hK K hHd1
        try simp only [Act.put, List.setIfInBounds_toArray, List.set_cons_zero, List.set_cons_succ, List.getElem_toArray, List.getElem_cons_zero, List.getElem_cons_succ]
        refine wpAnyL_ready (rs := [13]) (by kernel_rfl) (by simp) ?_
        refine (AllReadyL.cons rfl (fun K hK => ?_) AllReadyL.nil)
        have hfA : Fr [] wr (w5.alloc (.cells #[.bool false, .slice (some ⟨gd, 0, none⟩) l.length gc] 36)) := HCF.out.alloc _
        have HH5 := Lib.hid (HM.out.keep hfA)
        have HB5 : Hid (B ≤ (w5.alloc (.cells #[.bool false, .slice (some ⟨gd, 0, none⟩) l.length gc] 36)).heap.size) := Lib.hid (Nat.le_trans HBW.out hfA.size)
        have hy5 : (w5.alloc (.cells #[.bool false, .slice (some ⟨gd, 0, none⟩) l.length gc] 36)).ownsRow B 5 1 (RI.v ⟨false, some ⟨gd, 0, none⟩, gc, zs l.length⟩) (zs l.length).length ((zs l.length).map B8) := by
          have h := own_base (own_fr HCO.out ((Fr.refl [] w5).alloc (.cells #[.bool false, .slice (some ⟨gd, 0, none⟩) l.length gc] 36)) (by simp)) HBW.out
          unfold RI.v
          rw [zs_length]
          exact h
        have HY5 := Lib.hid hy5
        have HFA := Lib.hid hfA
        clear hfA hy5
        refine step_appS rfl (.tmp 32) (.tmp 40) 31 rfl B 36 (.agg #[.bool false, .slice none 0 0]) 2 32 Tryd.underlying31 infoRI rfl (by decide) (.slice a X.length c) X.length (riCells X) (by simp [Act.eval, Act.put]) HH5.out.recs.row (some ⟨w5.heap.size, 0, none⟩) 1 1 [.bool false, .slice (some ⟨gd, 0, none⟩) l.length gc] (by simp [Act.eval, Act.put]) rfl (bx_news2 (heap_alloc_new w5 _)) (fun h => by cases h) (by simp [Value.oneCell']) (by unfold maxLen; omega) (by omega) HB5.out ?_
        intro v' w6 happ
        obtain ⟨va2, vc2, rfl⟩ := own_slR happ.own
        have hra := MFH.app (y := ⟨false, some ⟨gd, 0, none⟩, gc, zs l.length⟩) (o := none) HH5.out HY5.out (by simp only [RI.v, zs_length]; exact happ) (fun g hg e => by
          have h1 : gd = g := by simpa [RI.v, Value.ownBlock] using hg
          have := (own_lt HM.out.recs.row e).2
          have := HGD.out
          omega) (by show (false, zs l.length) = (false, zs (s.sz - 1)); rw [HMZ.out]) HRL.out (fun d h => by cases h)
        have HRA := Lib.hid hra
        have z1 : w6.heap[p]? = some (.cells #[.int .i64 s.kd, .int .i64 s.vr, .int .i64 s.sz, .slice a X.length c] 33) := (app_frZ happ).obj HH5.out.obj (fun hm => HH5.out.ne (by simpa using hm))
        obtain ⟨z10, z11, z12, z13⟩ := four z1
        have z1f := frozen_of_row _ _ 3 _ _ z1
        clear hra happ z1
        refine hK.out _ _ (by exact ⟨z13, z12⟩) (fun hHd3 => ?_)
        clear hK K hHd2
        try simp only [Act.put, List.setIfInBounds_toArray, List.set_cons_zero, List.set_cons_succ, List.getElem_toArray, List.getElem_cons_zero, List.getElem_cons_succ]
        refine wpAnyL_pure (i := 14) (v := ?_) rfl (by kernel_rfl) (by kernel_rfl) (by kernel_rfl) (by kernel_rfl) (by kernel_rfl) (fun _ _ _ h => h) (Or.inl ⟨by rfl, ?_⟩) (fun _ => hHd3) ?_
        rotate_left
        · (intro w _; go_simp; (try with_reducible rfl))
        try simp only [Act.put, List.setIfInBounds_toArray, List.set_cons_zero, List.set_cons_succ, List.getElem_toArray, List.getElem_cons_zero, List.getElem_cons_succ]
        refine wpAnyL_pure (i := 15) (v := ?_) rfl (by kernel_rfl) (by kernel_rfl) (by kernel_rfl) (by kernel_rfl) (by kernel_rfl) (fun _ _ _ h => h) (Or.inl ⟨by rfl, ?_⟩) (fun _ => hHd3) ?_
        rotate_left
        · (intro w _; go_simp; (try with_reducible rfl))
        try simp only [Act.put, List.setIfInBounds_toArray, List.set_cons_zero, List.set_cons_succ, List.getElem_toArray, List.getElem_cons_zero, List.getElem_cons_succ]
        refine wpAnyL_ready (rs := [16]) (by kernel_rfl) (by simp) ?_
        refine (AllReadyL.consLate rfl (by kernel_rfl) (fun K hK => ?_) AllReadyL.nil)
        go_simp
        refine hK.out _ _ ?_
        clear hK K hHd3
        try simp only [Act.put, List.setIfInBounds_toArray, List.set_cons_zero, List.set_cons_succ, List.getElem_toArray, List.getElem_cons_zero, List.getElem_cons_succ]
        refine wpAnyL_done (by kernel_rfl) ?_ _
        go_wp2
        obtain ⟨q1, q2, q3⟩ := HRA.out
        go_roundw
        case rel =>
          refine ⟨j + 1, _, _, by rw [RFS.pad_succ]; exact q1, ?_, HJ.out⟩
          refine HST.out.trans ⟨((HFA.out.mono (by simp)).trans q2), fun i hi => ?_⟩
          rcases q3 i hi with h | h | h
          · exact .inl h
          · exact .inr (Nat.le_trans HFA.out.size h)
          · have h1 : gd = i := by simpa [RI.v, Value.ownBlock] using h
            exact .inr (h1 ▸ HGD.out)
        case measure =>
          have e := lenAt_eq (p := p) (w := w6.setCell ⟨p, 3, none⟩ (.slice va2 (X.length + 1) vc2)) (a := va2) (n := X.length + 1) (c := vc2) (four q1.obj).2.2.2
          rw [e, HLA.out]
          omega
      · have hki : ¬ (X.length : Int) ≤ (k : Int) := by omega
        obtain ⟨g, rfl, -, -⟩ := hmf.recs.pos (by omega)
        have hkX : k < X.length := by omega
        have hkXi : (k : Int) < (X.length : Int) := by omega
        have hk0 : (0 : Int) ≤ (k : Int) := by omega
        have hpad : (s.pad j).R = growR s.R k := by
          unfold RFS.pad growR
          have : j = k + 1 - s.R.length := by omega
          rw [this]
        have HPAD : Hid ({ s.pad j with R := (s.pad j).R.set k (some l), low := s.low } = s.put k l) := Lib.hid (by rw [hpad]; rfl)
        have HOKP : Hid (RFS.Ok { s.pad j with R := (s.pad j).R.set k (some l), low := s.low }) := Lib.hid (by rw [HPAD.out]; exact HPUTOK.out)
        have HB : Hid (Bytes wr la l) := Lib.hid (HB0.out.fr hst.1 (.inr HOFF.out))
        have HFW : Hid (Fr [] wr wr) := Lib.hid (Fr.refl _ _)
        have HXS := Lib.hid (Nat.le_refl 0)
        clear hmf hst hj hlen hpl hpad x0 x1 x2
        go_upto_region 7 with fail
        refine region_late (fun w' => w'.cell? ⟨p, 3, none⟩ = some (.slice (some ⟨g, 0, none⟩) X.length c)) [9] (by kernel_rfl) (by exact x3) (fun hHd0 => ?_)
        refine wpAnyL_pure (i := 0) (v := ?_) rfl (by kernel_rfl) (by kernel_rfl) (by kernel_rfl) (by kernel_rfl) (by kernel_rfl) (fun _ _ _ h => h) (Or.inl ⟨by rfl, ?_⟩) (fun _ => hHd0) ?_
        rotate_left
        · (intro w _; go_simp; (try with_reducible rfl))
        try simp only [Act.put, List.setIfInBounds_toArray, List.set_cons_zero, List.set_cons_succ, List.getElem_toArray, List.getElem_cons_zero, List.getElem_cons_succ]
        refine wpAnyL_pure (i := 1) (v := ?_) rfl (by kernel_rfl) (by kernel_rfl) (by kernel_rfl) (by kernel_rfl) (by kernel_rfl) (fun _ _ _ h => h) (Or.inl ⟨by rfl, ?_⟩) (fun _ => hHd0) ?_
        rotate_left
        · (intro w _; go_simp; (try with_reducible rfl))
        try simp only [Act.put, List.setIfInBounds_toArray, List.set_cons_zero, List.set_cons_succ, List.getElem_toArray, List.getElem_cons_zero, List.getElem_cons_succ]
        refine wpAnyL_pure (i := 2) (v := ?_) rfl (by kernel_rfl) (by kernel_rfl) (by kernel_rfl) (by kernel_rfl) (by kernel_rfl) (fun _ _ _ h => h) (Or.inl ⟨by rfl, ?_⟩) (fun _ => hHd0) ?_
        rotate_left
        · (intro w _; go_simp; (try with_reducible rfl))
        try simp only [Act.put, List.setIfInBounds_toArray, List.set_cons_zero, List.set_cons_succ, List.getElem_toArray, List.getElem_cons_zero, List.getElem_cons_succ]
        refine wpAnyL_take (i := 3) (v := ?_) rfl (by kernel_rfl) (by kernel_rfl) (by kernel_rfl) (by kernel_rfl) (by kernel_rfl) (fun _ _ _ h => h) (Or.inl ⟨by rfl, ?_⟩) hHd0 ?_
        rotate_left
        · (intro w hSw; (try dsimp only at hSw); go_simp; (try with_reducible rfl))
        try simp only [Act.put, List.setIfInBounds_toArray, List.set_cons_zero, List.set_cons_succ, List.getElem_toArray, List.getElem_cons_zero, List.getElem_cons_succ]
        refine wpAnyL_pure (i := 4) (v := ?_) rfl (by kernel_rfl) (by kernel_rfl) (by kernel_rfl) (by kernel_rfl) (by kernel_rfl) (fun _ _ _ h => h) (Or.inl ⟨by rfl, ?_⟩) (fun _ => hHd0) ?_
        rotate_left
        · (intro w _; go_simp; (try with_reducible rfl))
        try simp only [Act.put, List.setIfInBounds_toArray, List.set_cons_zero, List.set_cons_succ, List.getElem_toArray, List.getElem_cons_zero, List.getElem_cons_succ]
        refine wpAnyL_pure (i := 5) (v := ?_) rfl (by kernel_rfl) (by kernel_rfl) (by kernel_rfl) (by kernel_rfl) (by kernel_rfl) (fun _ _ _ h => h) (Or.inl ⟨by rfl, ?_⟩) (fun _ => hHd0) ?_
        rotate_left
        · (intro w _; go_simp; (try with_reducible rfl))
        try simp only [Act.put, List.setIfInBounds_toArray, List.set_cons_zero, List.set_cons_succ, List.getElem_toArray, List.getElem_cons_zero, List.getElem_cons_succ]
        refine wpAnyL_ready (rs := [6]) (by kernel_rfl) (by simp) ?_
        refine (AllReadyL.cons rfl (fun K hK => ?_) AllReadyL.nil)
        go_simp
        refine (copy_any la lc l wr.drew HLB.out (HB.out.keep (HFW.out.drew))).mono ?_
        rintro e w5 ⟨cv, rfl, hcv⟩
        obtain ⟨gd, gc, rfl, hgd, hgl, hco, hcf⟩ := hcv
        have HCO := Lib.hid hco
        have HCF := Lib.hid (((Fr.refl [] wr).drew).trans hcf)
        have HGD := Lib.hid (show wr.heap.size ≤ gd from hgd)
        have h6 := (HM.out.keep HCF.out).recs.cell hkX
        have h60 := h6.1
        have h61 := h6.2.1
        have h62 := h6.2.2 (k * 2)
        have h63 := h6.2.2 (k * 2 + 1)
        clear hco hcf hgd hgl h6
        go_simp
        refine hK.out _ _ (by exact HCF.out.cell x3 (by simp)) (fun hHd1 => ?_)
        clear hK K hHd0
        try simp only [Act.put, List.setIfInBounds_toArray, List.set_cons_zero, List.set_cons_succ, List.getElem_toArray, List.getElem_cons_zero, List.getElem_cons_succ]
        refine wpAnyL_take (i := 7) (v := ?_) rfl (by kernel_rfl) (by kernel_rfl) (by kernel_rfl) (by kernel_rfl) (by kernel_rfl) (fun _ _ _ h => h) (Or.inl ⟨by rfl, ?_⟩) hHd1 ?_
        rotate_left
        · (intro w hSw; (try dsimp only at hSw); go_simp; (try with_reducible rfl))
        try simp only [Act.put, List.setIfInBounds_toArray, List.set_cons_zero, List.set_cons_succ, List.getElem_toArray, List.getElem_cons_zero, List.getElem_cons_succ]
        refine wpAnyL_take (i := 8) (v := ?_) rfl (by kernel_rfl) (by kernel_rfl) (by kernel_rfl) (by kernel_rfl) (by kernel_rfl) (fun _ _ _ h => h) (Or.inl ⟨by rfl, ?_⟩) hHd1 ?_
        rotate_left
        · (intro w hSw; (try dsimp only at hSw); go_simp; (try with_reducible rfl))
        try simp only [Act.put, List.setIfInBounds_toArray, List.set_cons_zero, List.set_cons_succ, List.getElem_toArray, List.getElem_cons_zero, List.getElem_cons_succ]
        refine wpAnyL_ready (rs := [9]) (by kernel_rfl) (by simp) ?_
        refine (AllReadyL.consLate rfl (by kernel_rfl) (fun K hK => ?_) AllReadyL.nil)
        go_simp
        refine hK.out _ _ ?_
        clear hK K hHd1
        try simp only [Act.put, List.setIfInBounds_toArray, List.set_cons_zero, List.set_cons_succ, List.getElem_toArray, List.getElem_cons_zero, List.getElem_cons_succ]
        refine wpAnyL_done (by kernel_rfl) ?_ _
        go_wp2
        go_ret
        have hy : w5.ownsRow B 5 1 (RI.v ⟨true, some ⟨gd, 0, none⟩, gc, l⟩) l.length (l.map B8) := own_base HCO.out (show B ≤ wr.drew.heap.size from HBW.out)
        have hm := MFH.set (id := k) (lw := s.low) (o := some l) (y := ⟨true, some ⟨gd, 0, none⟩, gc, l⟩) (HM.out.keep HCF.out) hy rfl HOKP.out
        obtain ⟨q1, q2, q3⟩ := hm
        refine ⟨by rw [HE.out]; rfl, _, ⟨_, _, by rw [HS.out, ← HPAD.out]; exact q1, rfl⟩, ?_⟩
        refine HST.out.trans ⟨((HCF.out.mono (by simp)).trans (q2.mono (fun i hi _ => by simp at hi; subst hi; exact List.mem_cons_of_mem _ (mlB_v rfl)))), fun i hi => ?_⟩
        rcases q3 i hi with h | h
        · exact .inl h
        · have h1 : gd = i := by simpa [RI.v, Value.ownBlock] using h
          exact .inr (h1 ▸ HGD.out)
  · have HE := Lib.hid (putE_len (s := s) (id := id) (n := l.length) (by omega) (by omega))
    have HS := Lib.hid (putS_not (s := s) (d := l) (id := id) (by rw [HE.out]; decide))
    clear h hok
    go_enter Tryd.func50, Tryd.ntmps50
    go_wp2
    go_ret
    exact ⟨by rw [HE.out]; rfl, _, by rw [HS.out]; exact HMF.out, Stp.refl _ _⟩
end Go.Proofs.YtkcipbjikimlfaaDoor
