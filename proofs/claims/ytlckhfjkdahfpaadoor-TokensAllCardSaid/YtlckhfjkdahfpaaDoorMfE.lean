/- The document's record files: Put, Alloc, Free. -/
import Derived.Test.YtlckhfjkdahfpaaDoorMfB
import Derived.Test.YtlckhfjkdahfpaaDoorLate
import Derived.Test.YtlckhfjkdahfpaaDoorRfK
import Derived.Test.YtlckhfjkdahfpaaDoorFrC
import Derived.Test.YtlckhfjkdahfpaaDoorRecC
import Derived.Lib.SlBytesConst
namespace Go.Proofs.YtlckhfjkdahfpaaDoor
open Go.RowKit
attribute [local go_sem ↓] Go.wp_at_zero Go.wp_at_succ
theorem bx_news2 {w : World} {b : Nat} {x y : Value} {T : Nat} (h : w.heap[b]? = some (.cells #[x, y] T)) : ∀ a, some (⟨b, 0, none⟩ : Addr) = some a → ∀ (j : Nat) (u : Value), [x, y][j]? = some u → w.cell? (a.add j) = some u := by
  intro a ha j u hj
  cases ha
  match j with
  | 0 =>
    have h1 := cell_of_row w b 0 _ _ _ h
    simp at h1 hj
    subst hj
    exact h1
  | 1 =>
    have h1 := cell_of_row w b 1 _ _ _ h
    simp at h1 hj
    subst hj
    exact h1
  | j + 2 => simp at hj
/-- records that aren't in use are laid behind -/
def RFS.pad (s : RFS) (j : Nat) : RFS := { s with R := s.R ++ List.replicate j none }
theorem RFS.pad_zero (s : RFS) : s.pad 0 = s := by unfold RFS.pad; simp
theorem RFS.pad_succ (s : RFS) (j : Nat) : s.pad (j + 1) = { s.pad j with R := (s.pad j).R ++ [none] } := by
  unfold RFS.pad
  rw [List.replicate_succ', List.append_assoc]
theorem RFS.Ok.snoc {s : RFS} (h : s.Ok) {o : Option (List UInt8)} (hl : s.R.length < 65536) (ho : ∀ d, o = some d → d.length + 1 = s.sz) : RFS.Ok { s with R := s.R ++ [o] } := by
  refine ⟨h.kd, h.vr, h.lo, h.hi, by simp; omega, fun d hd => ?_, fun i hi => ?_⟩
  · rcases List.mem_append.1 hd with hd | hd
    · exact h.dat d hd
    · exact ho d (List.mem_singleton.1 hd).symm
  · obtain ⟨d, hd⟩ := h.low i hi
    refine ⟨d, ?_⟩
    show (s.R ++ [o])[i]? = _
    rw [List.getElem?_append_left (List.getElem?_eq_some_iff.1 hd).1]
    exact hd
/-- a record more -/
theorem MFH.app {w w' : World} {B p : Nat} {v v' : Value} {X : List RI} {s : RFS} {y : RI} {o : Option (List UInt8)} (h : MFH w B p v X s) (hy : w.ownsRow B 5 1 y.v y.d.length (y.d.map B8)) (ha : App w w' B 86 2 v v' X.length 1 (riCells X) [.bool y.u, y.v])
    (hyo : ∀ g, y.v.ownBlock = some g → v.ownBlock ≠ some g) (hp : y.p = docO s.sz o) (hl : s.R.length < 65536) (ho : ∀ d, o = some d → d.length + 1 = s.sz) :
    MFH (w'.setCell ⟨p, 3, none⟩ v') B p v' (X ++ [y]) { s with R := s.R ++ [o] } ∧ Fr (mfB p v X) w (w'.setCell ⟨p, 3, none⟩ v') ∧ ∀ i ∈ mfB p v' (X ++ [y]), i ∈ mfB p v X ∨ w.heap.size ≤ i ∨ y.v.ownBlock = some i := by
  have hf := app_frZ ha
  have hob : w'.heap[p]? = some (.cells #[.int .i64 s.kd, .int .i64 s.vr, .int .i64 s.sz, v] 84) := hf.obj h.obj (fun hm => h.ne (by simpa using hm))
  have hr := h.recs.app hy ha hyo
  have hpn : p ∉ mlB v' (X ++ [y]) := by
    intro hm
    rcases mlB_app ha hm with h1 | h1 | h1
    · exact h.offB h1
    · have := (Array.getElem?_eq_some_iff.1 h.obj).1; omega
    · exact own_ne hy h.obj (by decide) h1
  refine ⟨⟨?_, hr.fr ((Fr.refl [p] w').setCell (p := ⟨p, 3, none⟩) (by simp) _) (fun i hi hm => by simp at hm; subst hm; exact hpn hi), ?_, h.ok.snoc hl ho, h.base⟩, ?_, ?_⟩
  · rw [heap_setCell_same w' p 3 _ _ _ hob]
    rfl
  · rw [List.map_append, h.opt, List.map_append]
    show _ ++ [y.p] = _ ++ [docO s.sz o]
    rw [hp]
  · have hm : Fr (mfB p v X) w w' := hf.mono fun i hi _ => List.mem_cons_of_mem _ (mlB_v (by simpa using hi))
    exact hm.setCell (p := ⟨p, 3, none⟩) (fun _ => List.mem_cons_self) _
  · intro i hi
    rcases List.mem_cons.1 hi with rfl | hi
    · exact .inl List.mem_cons_self
    · rcases mlB_app ha hi with h1 | h1
      · exact .inl (List.mem_cons_of_mem _ h1)
      · exact .inr h1
/-- a record is laid anew -/
theorem MFH.set {w : World} {B p g n c id lw : Nat} {X : List RI} {s : RFS} {y : RI} {o : Option (List UInt8)} (h : MFH w B p (.slice (some ⟨g, 0, none⟩) n c) X s) (hy : w.ownsRow B 5 1 y.v y.d.length (y.d.map B8)) (hp : y.p = docO s.sz o) (hok : RFS.Ok { s with R := s.R.set id o, low := lw }) :
    MFH ((w.setCell ⟨g, id * 2, none⟩ (.bool y.u)).setCell ⟨g, id * 2 + 1, none⟩ y.v) B p (.slice (some ⟨g, 0, none⟩) n c) (X.set id y) { s with R := s.R.set id o, low := lw } ∧ Fr [g] w ((w.setCell ⟨g, id * 2, none⟩ (.bool y.u)).setCell ⟨g, id * 2 + 1, none⟩ y.v) ∧
      ∀ i ∈ mfB p (.slice (some ⟨g, 0, none⟩) n c) (X.set id y), i ∈ mfB p (.slice (some ⟨g, 0, none⟩) n c) X ∨ y.v.ownBlock = some i := by
  have hf : Fr [g] w ((w.setCell ⟨g, id * 2, none⟩ (.bool y.u)).setCell ⟨g, id * 2 + 1, none⟩ y.v) := ((Fr.refl [g] w).setCell (by simp) _).setCell (by simp) _
  have hne : p ≠ g := fun e => h.ne (by rw [e]; rfl)
  refine ⟨⟨hf.obj h.obj (by simpa using hne), h.recs.set hy, ?_, hok, h.base⟩, hf, ?_⟩
  · rw [List.map_set, h.opt, hp]
    show (s.R.map (docO s.sz)).set id (docO s.sz o) = (s.R.set id o).map (docO s.sz)
    rw [List.map_set]
  · intro i hi
    rcases List.mem_cons.1 hi with rfl | hi
    · exact .inl List.mem_cons_self
    · rcases mlB_set hi with h1 | h1
      · exact .inl (List.mem_cons_of_mem _ h1)
      · exact .inr h1
def lenAt (p : Nat) (w : World) : Nat := match w.cell? ⟨p, 3, none⟩ with | some (.slice _ n _) => n | _ => 0
theorem lenAt_eq {p n c : Nat} {a : Option Addr} {w : World} (h : w.cell? ⟨p, 3, none⟩ = some (.slice a n c)) : lenAt p w = n := by unfold lenAt; rw [h]
end Go.Proofs.YtlckhfjkdahfpaaDoor

/- The document's record files: Free, Alloc. -/
namespace Go.Proofs.YtlckhfjkdahfpaaDoor
open Go.RowKit
attribute [local go_sem ↓] Go.wp_at_zero Go.wp_at_succ
end Go.Proofs.YtlckhfjkdahfpaaDoor

/- The document's record files: Bytes. -/
namespace Go.Proofs.YtlckhfjkdahfpaaDoor
open Go.RowKit
attribute [local go_sem ↓] Go.wp_at_zero Go.wp_at_succ
theorem recB_doc {sz : Nat} (h : 2 ≤ sz) (o : Option (List UInt8)) : recB sz o = (if o.isSome = true then 1 else 0) :: (docO sz o).2 := by
  cases o with
  | none =>
    show List.replicate sz (0 : UInt8) = 0 :: zs (sz - 1)
    unfold zs
    rw [show sz = (sz - 1) + 1 by omega, List.replicate_succ]
    rfl
  | some d => rfl
theorem by8_2 (n : Nat) : by8 2 n = [UInt8.ofNat (n / 256), UInt8.ofNat n] := by simp [by8]
theorem ofNat_256 : UInt8.ofNat 256 = 0 := by decide
theorem magic_B8 : magicB.map B8 = [.int .u8 83, .int .u8 82, .int .u8 69, .int .u8 67] := by
  have h1 : I8 83 = 83 := by decide +kernel
  have h2 : I8 82 = 82 := by decide +kernel
  have h3 : I8 69 = 69 := by decide +kernel
  have h4 : I8 67 = 67 := by decide +kernel
  simp [magicB, B8, h1, h2, h3, h4]
theorem own_bs (w : World) (l : List UInt8) (vs : List Value) (h : l.map B8 = vs) (hl : l.length ≤ 1000) : (w.alloc (.cells vs.toArray 5)).ownsRow w.heap.size 5 1 (.slice (some ⟨w.heap.size, 0, none⟩) l.length l.length) l.length (l.map B8) := by
  subst h
  exact ⟨by simp, .inr ⟨w.heap.size, l.length, _, rfl, Nat.le_refl _, heap_alloc_new w _, Nat.le_refl _, by unfold maxLen; omega, by simp, by rw [Nat.mul_one]; exact List.take_of_length_le (by simp)⟩⟩
theorem hd8 (kd vr sz : Nat) (hk : kd ≤ 255) (hv : vr ≤ 255) (hz : sz ≤ 255) : by8 1 kd ++ (by8 1 vr ++ by8 2 sz) = [UInt8.ofNat kd, UInt8.ofNat vr, 0, UInt8.ofNat sz] := by
  rw [by8_1, by8_1, by8_2, show sz / 256 = 0 by omega]
  rfl
/-- append onto bytes that are but read (no room in their row): a new row -/
theorem step_appG {P : Program} {ops : Array Oper} {o : Oper} {a : Act} {w : World} {K : Act → World → Prop} {Q : Exit → Act → World → Prop} {E : Prop}
    (hg : o.guard = none) (s x : Operand) (t : TypeId) (hop : o.op = Op.call { callee := Callee.builtin Builtin.append, args := #[s, x], argTypes := #[t, t] })
    (e : TypeId) (ht : P.underlying t = some (.slice e)) (hinfo : (P.info? e).map (fun i => (i.zero, i.size, i.bytes)) = some (some (.int .u8 0), 1, 1))
    (b : Addr) (xs : List UInt8) (n cap : Nat) (hs : a.eval s = .slice (some b) n cap) (hn : xs.length = n) (hxb : Bytes w (some b) xs)
    (ad : Addr) (m c : Nat) (l : List UInt8) (hx : a.eval x = .slice (some ad) m c) (hl : l.length = m) (hb : Bytes w (some ad) l)
    (hroom : cap < n + m) (hsm : n + m ≤ 140737488355328)
    (hK : ∀ v' w', w'.ownsRow w.heap.size e 1 v' (xs ++ l).length ((xs ++ l).map B8) → Fr [] w w' → K (a.put o.dst v') w') :
    if Region.wanted o (yielded ops a.tmps) = true then Oper.wp P o a w K Q else E := by
  subst hl
  subst hn
  have hw : Region.wanted o (yielded ops a.tmps) = true := by simp [Region.wanted, hg]
  rw [if_pos hw]
  obtain ⟨i, hi, hz, hsz2, hby⟩ := info_parts hinfo
  obtain ⟨v', w', hr, ha, hgr⟩ := run_append_arg_grows (P := P) (w := w) t o.type e i (.int .u8 0) 1 1 ht hi hz hsz2 hby rfl (by decide) b xs.length cap (xs.map B8) (by simp) hxb.news ad l.length c (l.map B8) (by simp) hb.news hroom (by unfold maxLen; omega) (by omega)
  unfold Oper.wp
  simp [execOp, hop, resolve, invoke, builtin, hs, hx, hr, Result.andThen]
  exact hK v' w' (by rw [List.length_append, List.map_append]; exact ha) (Fr.of_grown hgr _ fun k hk => by cases hk)
set_option maxRecDepth 100000 in
set_option maxHeartbeats 1600000 in
theorem Bytes9 (B : Nat) (bs : List Nat) (w : World) (p : Nat) (s : RFS) (h : MF B bs w p s) :
    Calls Tryd.prog 46 #[.pointer (some ⟨p, 0, none⟩)] w fun e w' => ∃ v, e = .returned v ∧ Fresh w.heap.size w w' v (fileB s.kd s.vr s.sz s.R) := by
  obtain ⟨v, X, h, -⟩ := h
  obtain ⟨x0, x1, x2, x3⟩ := four h.obj
  obtain ⟨a, c, rfl, -⟩ := h.recs.sl
  have hok := h.ok
  have hk := hok.kd
  have hv := hok.vr
  have hlo := hok.lo
  have hhi := hok.hi
  have hlen := h.len
  have hRl := hok.len
  have H := Lib.hid h
  have HLEN := Lib.hid hlen
  have q1 : IntKind.u8.wrap (s.kd : Int) = I8 (UInt8.ofNat s.kd) := by rw [wrap8_nat (by omega) (by omega)]; simp
  have q2 : IntKind.u8.wrap (s.vr : Int) = I8 (UInt8.ofNat s.vr) := by rw [wrap8_nat (by omega) (by omega)]; simp
  have q3 : IntKind.u8.wrap (s.sz : Int) = I8 (UInt8.ofNat s.sz) := by rw [wrap8_nat (by omega) (by omega)]; simp
  have HHD := Lib.hid (hd8 s.kd s.vr s.sz hk hv hhi)
  have kc := fun (w : World) (C : Array Value) (n c : Nat) => Lib.run_convert_bytes_const (P := Tryd.prog) w 37 5 C n c Tryd.underlying37 Tryd.underlying5
  clear h hok hlen
  go_enter Tryd.func46, Tryd.ntmps46
  go_upto_region 2 with fail
  generalize hW : World.alloc w _ = W
  have hfW : Fr [] w W := by rw [← hW]; exact (Fr.refl _ _).alloc _
  have hbW : Bytes W (some ⟨w.heap.size, 0, none⟩) magicB := by
    refine .inr ⟨w.heap.size, 0, rfl, fun j hj => ?_⟩
    rw [← hW, cell_of_row _ _ _ _ _ _ (heap_alloc_new w _), Nat.zero_add]
    have h1 := congrArg (fun l => l[j]?) magic_B8
    simp only [List.getElem?_map, List.getElem?_eq_getElem hj, Option.map_some] at h1
    simp only [List.getElem?_toArray, List.getD_eq_getElem?_getD, List.getElem?_eq_getElem hj, Option.getD_some]
    exact h1.symm
  have HFW := Lib.hid hfW
  have HBW := Lib.hid hbW
  have y0 := hfW.cell x0 (by simp)
  have y1 := hfW.cell x1 (by simp)
  have y2 := hfW.cell x2 (by simp)
  obtain ⟨g0, hg0⟩ : ∃ g0, g0 = w.heap.size := ⟨_, rfl⟩
  rw [← hg0] at HBW ⊢
  have HG0 := Lib.hid hg0
  have r1 : (s.sz : Int).tdiv 256 = 0 := by rw [Int.tdiv_eq_ediv_of_nonneg (by omega)]; omega
  have r2 : (s.sz : Int).tmod 256 = (s.sz : Int) := by rw [Int.tmod_eq_emod_of_nonneg (by omega)]; omega
  have r3 : IntKind.i64.wrap (s.sz : Int) = (s.sz : Int) := IntWalk.i64_in _ (by omega)
  have r4 : IntKind.u8.wrap (IntKind.i64.wrap 0) = I8 0 := by decide +kernel
  clear hW hfW hbW hg0 x0 x1 x2 x3
  go_cut [3] (fun v wx => Grow [] w wx v (magicB ++ (by8 1 s.kd ++ (by8 1 s.vr ++ by8 2 s.sz))))
  case first =>
    go_region_held3 (fun w' => w'.cell? ⟨p, 0, none⟩ = some (.int .i64 s.kd) ∧ w'.cell? ⟨p, 1, none⟩ = some (.int .i64 s.vr) ∧ w'.cell? ⟨p, 2, none⟩ = some (.int .i64 s.sz))
      (first
        | with_reducible assumption
        | exact ⟨y0, y1, y2⟩
        | exact ⟨((Fr.refl [] _).alloc _).cell y0 (by simp), ((Fr.refl [] _).alloc _).cell y1 (by simp), ((Fr.refl [] _).alloc _).cell y2 (by simp)⟩
        | exact ⟨hA.cell (((Fr.refl [] _).alloc _).cell y0 (by simp)) (by simp), hA.cell (((Fr.refl [] _).alloc _).cell y1 (by simp)) (by simp), hA.cell (((Fr.refl [] _).alloc _).cell y2 (by simp)) (by simp)⟩)
      (first
        | (refine step_appG rfl (.tmp 9) (.tmp 32) 37 rfl 5 Tryd.underlying37 info8 ⟨g0, 0, none⟩ magicB 4 4 rfl rfl (HBW.out.keep (((Fr.refl [] _).drew).alloc _)) ⟨W.heap.size, 0, none⟩ 4 4 [UInt8.ofNat s.kd, UInt8.ofNat s.vr, 0, UInt8.ofNat s.sz] rfl rfl ((own_by9 (own_bs W [UInt8.ofNat s.kd, UInt8.ofNat s.vr, 0, UInt8.ofNat s.sz] _ rfl (by simp))).1.keep ((Fr.refl [] _).drew)) (by decide) (by decide) ?_; intro vB wB hB hA))
    all_goals
      go_wp2_with fail
      go_meet
      rw [HHD.out]
      have hBB : W.heap.size ≤ wB.heap.size := by have := hA.size; simp at this; omega
      refine ⟨own_base hB (by have := HFW.out.size; simp; omega), ?_, fun _ h => (List.not_mem_nil h).elim, HFW.out.trans ((((Fr.refl [] W).alloc _).drew).trans hA)⟩
      intro e
      rw [e] at hB
      rcases hB.2 with ⟨_, h⟩ | ⟨_, _, _, h, _⟩
      · simp at h
      · cases h
  case rest =>
    have HG := Lib.hid hcut
    clear hcut y0 y1 y2 r1 r2 r3 r4 q1 q2 q3 kc HBW
    have HNUM : Hid (∀ w, Calls Tryd.prog 65 #[.int .i64 4, .int .u64 (X.length : Int)] w fun e w' => ∃ g cap, e = .returned (.slice (some ⟨g, 0, none⟩) 4 cap) ∧ Bytes w' (some ⟨g, 0, none⟩) (by8 4 X.length) ∧ w.heap.size ≤ g ∧ Fr [] w w') := by
      refine Lib.hid fun w => (refnum_int 4 (X.length : Int) w (by unfold Wd; omega) (by omega) (by have := HLEN.out; omega)).mono ?_
      rintro e w' ⟨v, rfl, hv⟩
      rw [Int.toNat_natCast] at hv
      obtain ⟨g, cap, rfl, hg, _, hb, hf⟩ := hv.bytes
      exact ⟨g, cap, by rw [by8_length], hb, hg, hf⟩
    have q4 : IntKind.u64.wrap (X.length : Int) = (X.length : Int) := wrapU_int _ (by omega) (by have := HLEN.out; omega)
    have y3 := (four (HG.out.fr.obj H.out.obj (by simp))).2.2.2
    go_wp2_with fail
    refine (HNUM.out wc).mono ?_
    rintro e w2 ⟨gN, cN, rfl, hbN, hgN, hfN⟩
    have HBN := Lib.hid hbN
    have HGN := Lib.hid (HG.out.fr0 hfN)
    clear hbN hgN hfN HG y3 HNUM
    obtain ⟨L1, hL1⟩ : ∃ L1, L1 = magicB ++ (by8 1 s.kd ++ (by8 1 s.vr ++ by8 2 s.sz)) := ⟨_, rfl⟩
    rw [← hL1] at HGN
    have HL1 := Lib.hid hL1
    have HLL : Hid (L1.length ≤ 100) := Lib.hid (by rw [hL1, HHD.out]; simp [magicB])
    have HH12 : Hid (L1 ++ by8 4 X.length = h12 s.kd s.vr s.sz s.R.length) := Lib.hid (by rw [hL1, HLEN.out]; unfold h12; simp only [List.append_assoc])
    clear hL1
    go_wp2_with (at_builtin; refine wpList_apB _ rfl _ _ 37 rfl w.heap.size 5 Tryd.underlying37 info8 u3 L1 rfl HGN.out.own (some ⟨gN, 0, none⟩) 4 cN (by8 4 X.length) rfl (by8_length ..) HBN.out (fun h => by cases h) (by have := HLL.out; omega) HGN.out.size ?_; intro v' w3 happ; have h0 := HGN.out.app happ; rw [HH12.out] at h0; obtain ⟨a3, c3, e3⟩ := own_slR h0.own; rw [h12_length] at e3; subst e3; have HA := Lib.hid h0; clear happ h0)
    have HFB : Hid (fileB s.kd s.vr s.sz s.R = (h12 s.kd s.vr s.sz s.R.length ++ sm4 (h12 s.kd s.vr s.sz s.R.length)) ++ bodyB s.sz s.R) := Lib.hid rfl
    have HHL := Lib.hid (h12_length s.kd s.vr s.sz s.R.length)
    generalize h12 s.kd s.vr s.sz s.R.length = H12 at HA HFB HHL
    refine (refsum_any a3 12 c3 H12 w3 HHL.out (by omega) (own_by9 HA.out.own).1).mono ?_
    rintro e w' ⟨rfl, rfl⟩
    have q3 := wrapU_I32 (P.update 0#32 H12)
    have b1 := I32_lo (P.update 0#32 H12)
    have b2 := I32_hi (P.update 0#32 H12)
    have HSM := Lib.hid (show by8 4 (I32 (P.update 0#32 H12)).toNat = sm4 H12 from I32_toNat _)
    generalize I32 (P.update 0#32 H12) = z at q3 b1 b2 HSM ⊢
    go_wp2_with fail
    refine (refnum_int 4 z w3 (by unfold Wd; omega) b1 (by omega)).mono ?_
    rintro e w4 ⟨vS, rfl, hvS⟩
    rw [HSM.out] at hvS
    obtain ⟨gS, capS, rfl, hgS, hltS, hbS, hfS⟩ := hvS.bytes
    rw [sm4_length]
    have HBS := Lib.hid hbS
    have HA4 := Lib.hid (HA.out.fr0 hfS)
    obtain ⟨S4, hS4⟩ : ∃ S4, S4 = sm4 H12 := ⟨_, rfl⟩
    rw [← hS4] at HBS HFB
    have HS4 : Hid (S4.length = 4) := Lib.hid (by rw [hS4, sm4_length])
    clear hvS hbS hfS q3 hgS hltS hS4 HSM HA HBN HGN
    go_wp2_with (at_builtin; refine wpList_apB _ rfl _ _ 37 rfl w.heap.size 5 Tryd.underlying37 info8 (.slice a3 12 c3) H12 rfl HA4.out.own (some ⟨gS, 0, none⟩) 4 capS S4 rfl HS4.out HBS.out (fun h => by cases h) (by rw [HHL.out]; omega) HA4.out.size ?_; intro v' w5 happ; have HA5 := Lib.hid (HA4.out.app happ); clear happ)
    obtain ⟨HD, hHD⟩ : ∃ HD, HD = H12 ++ S4 := ⟨_, rfl⟩
    rw [← hHD] at HA5 HFB
    have HHD6 : Hid (HD.length = 16) := Lib.hid (by rw [hHD, List.length_append, HHL.out, HS4.out])
    clear hHD HHL HS4 HBS HA4 q4
    have hXb : X.length ≤ 65536 := by rw [HLEN.out]; exact hRl
    have HSZ : Hid (2 ≤ s.sz ∧ s.sz ≤ 255) := Lib.hid ⟨hlo, hhi⟩
    have HOK := Lib.hid (H.out.ok.dat)
    clear hlo hhi hk hv hRl b1 b2 HFW HG0 HHD HL1 HLL HH12
    go_loopw [3, 4, 5, 6] (fun v i _ _ wr => ∃ k : Nat, k ≤ X.length ∧ i = .int .i64 k ∧ Grow [] w wr v (HD ++ bodyB s.sz (s.R.take k))) (fun _ i _ _ _ => X.length - (intOf i).toNat)
    case atStart => exact ⟨0, by omega, rfl, by simpa [bodyB_nil] using HA5.out⟩
    case round =>
      obtain ⟨k, hk, rfl, hgr⟩ := hrel
      have HG := Lib.hid hgr
      have y3 := (four (hgr.fr.obj H.out.obj (by simp))).2.2.2
      clear hgr
      by_cases hlt : k < X.length
      · have hki : (k : Int) < (X.length : Int) := by omega
        have hk0 : (0 : Int) ≤ (k : Int) := by omega
        obtain ⟨g, rfl, -, -⟩ := H.out.recs.pos (by omega)
        obtain ⟨x, hx, -, hxp, c1, c2, ho, hxl⟩ := H.out.at (k := k) (by have := HLEN.out; omega)
        obtain ⟨xu, xa, xc, xd⟩ := x
        simp only [RI.v] at c2 ho hxl
        obtain ⟨gx, rfl⟩ : ∃ gx, xa = some ⟨gx, 0, none⟩ := by
          rcases ho.2 with ⟨e, h0⟩ | ⟨g', _, _, e, _⟩
          · have := HSZ.out; omega
          · simp only [Value.slice.injEq] at e; exact ⟨g', e.1⟩
        have HBX := Lib.hid (own_by9 ho).1
        obtain ⟨b, hb⟩ : ∃ b, b = (s.R.getD k none).isSome := ⟨_, rfl⟩
        have HREC : Hid (bodyB s.sz (s.R.take (k + 1)) = bodyB s.sz (s.R.take k) ++ (if b = true then (1 : UInt8) else 0) :: xd) := Lib.hid (by
          have hkR : k < s.R.length := by have := HLEN.out; omega
          rw [take_snoc _ k hkR, bodyB_append, bodyB_cons, bodyB_nil, List.append_nil, recB_doc HSZ.out.1, hb]
          have h1 : s.R.getD k none = s.R[k] := by rw [List.getD_eq_getElem?_getD, List.getElem?_eq_getElem hkR]; rfl
          rw [← h1, ← hxp]
          rfl)
        rw [← hb] at c1
        have d1 := HG.out.fr.cell c1 (by simp)
        have d2 := HG.out.fr.cell c2 (by simp)
        have C2 := Lib.hid c2
        have HTL : Hid ((HD ++ bodyB s.sz (s.R.take k)).length ≤ 17000000) := Lib.hid (by
          rw [List.length_append, HHD6.out, bodyB_length (fun d hd => HOK.out d (List.mem_of_mem_take hd)), List.length_take]
          have := HLEN.out
          have h2 : min k s.R.length * s.sz ≤ 65536 * 255 := Nat.mul_le_mul (by omega) HSZ.out.2
          omega)
        obtain ⟨BD, hBD⟩ : ∃ BD, BD = HD ++ bodyB s.sz (s.R.take k) := ⟨_, rfl⟩
        rw [← hBD] at HG HTL
        have HBD := Lib.hid hBD
        have hxl2 : xd.length ≤ 255 := by have := HSZ.out; omega
        have B0 : I8 0 = 0 := by decide +kernel
        have B1 : I8 1 = 1 := by decide +kernel
        clear ho hxp hb hBD hx c1 c2 hxl
        cases b with
        | true =>
          have hone : ∀ W : World, Bytes (W.alloc (.cells #[.int .u8 1] 5)) (some ⟨W.heap.size, 0, none⟩) [1] := fun W => by
            have h := Bytes.one (w := W) (g := W.heap.size) (t := 5) (fr := (0, 0)) 1 rfl
            rw [B1] at h
            exact h
          have HONE := Lib.hid hone
          clear hone B0 B1
          go_wp2_with (at_builtin; refine wpList_apB _ rfl _ _ 37 rfl w.heap.size 5 Tryd.underlying37 info8 u3 BD rfl (HG.out.alloc _).own (some ⟨wr.heap.size, 0, none⟩) 1 1 [1] rfl rfl (HONE.out wr) (fun h => by cases h) (by have := HTL.out; omega) (HG.out.alloc _).size ?_; intro v' w1 happ; have HA := Lib.hid ((HG.out.alloc _).app happ); clear happ)
          obtain ⟨BE, hBE⟩ : ∃ BE, BE = BD ++ [1] := ⟨_, rfl⟩
          rw [← hBE] at HA
          have HBE := Lib.hid hBE
          have HBL : Hid (BE.length ≤ 17000001) := Lib.hid (by rw [hBE, List.length_append]; have := HTL.out; simp; omega)
          clear hBE HG HONE y3 d1 d2
          go_loopw [3, 6] (fun v i wr => ∃ j : Nat, j ≤ xd.length ∧ i = .int .i64 j ∧ Grow [] w wr v (BE ++ xd.take j)) (fun _ i _ => xd.length - (intOf i).toNat)
          case atStart => exact ⟨0, by omega, rfl, by simpa using HA.out⟩
          case round =>
            obtain ⟨j, hj, rfl, hgr⟩ := hrel
            have HG := Lib.hid hgr
            have y3 := (four (hgr.fr.obj H.out.obj (by simp))).2.2.2
            have d2 := hgr.fr.cell C2.out (by simp)
            clear hgr
            by_cases hlj : j < xd.length
            · have hji : (j : Int) < (xd.length : Int) := by omega
              have hj0 : (0 : Int) ≤ (j : Int) := by omega
              obtain ⟨b', off', e', hc⟩ := HBX.out.at (by omega)
              cases e'
              have d3 : wr.cell? ⟨gx, j, none⟩ = some (.int .u8 (I8 (xd.getD j 0))) := by
                have := HG.out.fr.cell (hc j hlj) (by simp)
                rwa [Nat.zero_add] at this
              obtain ⟨q, hq⟩ : ∃ q, q = xd.getD j 0 := ⟨_, rfl⟩
              rw [← hq] at d3
              have HQ : Hid (BE ++ xd.take (j + 1) = (BE ++ xd.take j) ++ [q]) := Lib.hid (by rw [take_snoc xd j hlj, hq, List.append_assoc]; simp [List.getD, hlj])
              have HBJ : Hid ((BE ++ xd.take j).length ≤ 17001000) := Lib.hid (by rw [List.length_append, List.length_take]; have := HBL.out; omega)
              obtain ⟨BJ, hBJ⟩ : ∃ BJ, BJ = BE ++ xd.take j := ⟨_, rfl⟩
              rw [← hBJ] at HG HQ HBJ
              clear hc hq hBJ
              go_wp2_with (at_builtin; refine wpList_apB _ rfl _ _ 37 rfl w.heap.size 5 Tryd.underlying37 info8 u3 BJ rfl (HG.out.alloc _).own (some ⟨wr.heap.size, 0, none⟩) 1 1 [q] rfl rfl (Bytes.one q rfl) (fun h => by cases h) (by have := HBJ.out; omega) (HG.out.alloc _).size ?_; intro v' w1 happ; have HA := Lib.hid ((HG.out.alloc _).app happ); clear happ)
              go_roundw
              case rel => exact ⟨j + 1, by omega, by go_num, by rw [HQ.out]; exact HA.out⟩
              case measure => simp [intOf] <;> omega
            · have HQ : Hid (BE ++ xd.take j = HD ++ bodyB s.sz (s.R.take (k + 1))) := Lib.hid (by rw [HREC.out, HBE.out, HBD.out, show xd.take j = xd from List.take_of_length_le (by omega)]; simp)
              rw [HQ.out] at HG
              clear HQ
              go_wp2
              go_roundw
              case rel => exact ⟨k + 1, by omega, by go_num, HG.out⟩
              case measure => simp [intOf] <;> omega
        | false =>
          have hone : ∀ W : World, Bytes (W.alloc (.cells #[.int .u8 0] 5)) (some ⟨W.heap.size, 0, none⟩) [0] := fun W => by
            have h := Bytes.one (w := W) (g := W.heap.size) (t := 5) (fr := (0, 0)) 0 rfl
            rw [B0] at h
            exact h
          have HONE := Lib.hid hone
          clear hone B0 B1
          go_wp2_with (at_builtin; refine wpList_apB _ rfl _ _ 37 rfl w.heap.size 5 Tryd.underlying37 info8 u3 BD rfl (HG.out.alloc _).own (some ⟨wr.heap.size, 0, none⟩) 1 1 [0] rfl rfl (HONE.out wr) (fun h => by cases h) (by have := HTL.out; omega) (HG.out.alloc _).size ?_; intro v' w1 happ; have HA := Lib.hid ((HG.out.alloc _).app happ); clear happ)
          obtain ⟨BE, hBE⟩ : ∃ BE, BE = BD ++ [0] := ⟨_, rfl⟩
          rw [← hBE] at HA
          have HBE := Lib.hid hBE
          have HBL : Hid (BE.length ≤ 17000001) := Lib.hid (by rw [hBE, List.length_append]; have := HTL.out; simp; omega)
          clear hBE HG HONE y3 d1 d2
          go_loopw [3, 6] (fun v i wr => ∃ j : Nat, j ≤ xd.length ∧ i = .int .i64 j ∧ Grow [] w wr v (BE ++ xd.take j)) (fun _ i _ => xd.length - (intOf i).toNat)
          case atStart => exact ⟨0, by omega, rfl, by simpa using HA.out⟩
          case round =>
            obtain ⟨j, hj, rfl, hgr⟩ := hrel
            have HG := Lib.hid hgr
            have y3 := (four (hgr.fr.obj H.out.obj (by simp))).2.2.2
            have d2 := hgr.fr.cell C2.out (by simp)
            clear hgr
            by_cases hlj : j < xd.length
            · have hji : (j : Int) < (xd.length : Int) := by omega
              have hj0 : (0 : Int) ≤ (j : Int) := by omega
              obtain ⟨b', off', e', hc⟩ := HBX.out.at (by omega)
              cases e'
              have d3 : wr.cell? ⟨gx, j, none⟩ = some (.int .u8 (I8 (xd.getD j 0))) := by
                have := HG.out.fr.cell (hc j hlj) (by simp)
                rwa [Nat.zero_add] at this
              obtain ⟨q, hq⟩ : ∃ q, q = xd.getD j 0 := ⟨_, rfl⟩
              rw [← hq] at d3
              have HQ : Hid (BE ++ xd.take (j + 1) = (BE ++ xd.take j) ++ [q]) := Lib.hid (by rw [take_snoc xd j hlj, hq, List.append_assoc]; simp [List.getD, hlj])
              have HBJ : Hid ((BE ++ xd.take j).length ≤ 17001000) := Lib.hid (by rw [List.length_append, List.length_take]; have := HBL.out; omega)
              obtain ⟨BJ, hBJ⟩ : ∃ BJ, BJ = BE ++ xd.take j := ⟨_, rfl⟩
              rw [← hBJ] at HG HQ HBJ
              clear hc hq hBJ
              go_wp2_with (at_builtin; refine wpList_apB _ rfl _ _ 37 rfl w.heap.size 5 Tryd.underlying37 info8 u3 BJ rfl (HG.out.alloc _).own (some ⟨wr.heap.size, 0, none⟩) 1 1 [q] rfl rfl (Bytes.one q rfl) (fun h => by cases h) (by have := HBJ.out; omega) (HG.out.alloc _).size ?_; intro v' w1 happ; have HA := Lib.hid ((HG.out.alloc _).app happ); clear happ)
              go_roundw
              case rel => exact ⟨j + 1, by omega, by go_num, by rw [HQ.out]; exact HA.out⟩
              case measure => simp [intOf] <;> omega
            · have HQ : Hid (BE ++ xd.take j = HD ++ bodyB s.sz (s.R.take (k + 1))) := Lib.hid (by rw [HREC.out, HBE.out, HBD.out, show xd.take j = xd from List.take_of_length_le (by omega)]; simp)
              rw [HQ.out] at HG
              clear HQ
              go_wp2
              go_roundw
              case rel => exact ⟨k + 1, by omega, by go_num, HG.out⟩
              case measure => simp [intOf] <;> omega
      · have e : s.R.take k = s.R := List.take_of_length_le (by have := HLEN.out; omega)
        rw [e, ← HFB.out] at HG
        clear e
        go_wp2
        go_ret
        exact ⟨_, rfl, HG.out.fresh⟩
end Go.Proofs.YtlckhfjkdahfpaaDoor
