/- How structs and lists of structs in arguments are opened. No program. -/
import Derived.Test.YtkcipbjikimlfaaDoorLaw
import Derived.Test.YtkcipbjikimlfaaDoorU64
import Derived.Test.YtkcipbjikimlfaaDoorFresh
import Derived.Test.YtkcipbjikimlfaaDoorRecC
import Derived.Test.YtkcipbjikimlfaaDoorRows
import Derived.Deep.DeepHandedRow
namespace Go.Proofs.YtkcipbjikimlfaaDoor
open Go.ChangeShapes Go.WideShapes Go.ChangeAt Go.RowKit Go.Deep
section
variable {H : Type} {enc : TypeId × Value → H} {P : Program}
theorem Wt.field {t : TypeId} {fs : Array Field} {ds : List (DataW H)} (h : Wt P t (.agg ds)) (hu : P.underlying t = some (.struct fs)) {i : Nat} {f : Field} {d : DataW H} (hf : fs[i]? = some f) (hd : ds[i]? = some d) : Wt P f.type d := by
  intro n hn
  apply h
  unfold DataW.weights
  rw [hu]
  exact DataW.weights_mem_each (j := i) (by simp [hf]) hd n hn
/-- each field of one cell reads by its type -/
def Fields (enc : TypeId × Value → H) (P : Program) (W : World) (fs : Array Field) (cs : List Value) (ds : List (DataW H)) : Prop :=
  ∃ n, ∀ (i t off : Nat), (fs[i]?).map (fun f => (f.type, f.offset)) = some (t, off) → ∀ v, cs[off]? = some v → P.cellsOf t = 1 → ∃ d' p', DataW.trod enc P W 0 (fun _ => true) true n t [v] = some (d', p') ∧ Wt P t d' ∧ d' ∈ ds
theorem struct_read {W : World} {t : TypeId} {fs : Array Field} {cs : List Value} {d : DataW H} {p : List MemPlace} {fuel : Nat} (ht : P.underlying t = some (.struct fs))
    (h : DataW.trod enc P W 0 (fun _ => true) true fuel t cs = some (d, p)) (hw : Wt P t d) : cs.length = P.cellsOf t ∧ ∃ ds, d = .agg ds ∧ Fields enc P W fs cs ds := by
  obtain ⟨xs, n, _, hx, hl, hlen, hf⟩ := DataW.trod_struct ht h
  simp only [Prod.mk.injEq] at hx
  rw [hx.1] at hw
  refine ⟨hl, _, hx.1, n, fun i t off hi v hv hc => ?_⟩
  obtain ⟨f, hi2, e2⟩ := Option.map_eq_some_iff.1 hi
  simp only [Prod.mk.injEq] at e2
  obtain ⟨rfl, rfl⟩ := e2
  have hlt : i < fs.size := (Array.getElem?_eq_some_iff.1 hi2).1
  have e : xs[i]? = some (xs[i]'(by omega)) := List.getElem?_eq_getElem (by omega)
  have h1 := (hf i f hi2).trans e
  obtain ⟨hlt2, hv2⟩ := List.getElem?_eq_some_iff.1 hv
  rw [hc, List.drop_eq_getElem_cons hlt2, hv2] at h1
  refine ⟨(xs[i]'(by omega)).1, (xs[i]'(by omega)).2, by simpa using h1, hw.field ht hi2 ?_, ?_⟩
  · simp [e]
  · exact List.mem_map.2 ⟨_, List.getElem_mem _, rfl⟩
theorem int_read {W : World} {t : TypeId} {k : IntKind} {v : Value} {d : DataW H} {p : List MemPlace} {fuel : Nat} (ht : P.underlying t = some (.int k)) (h : DataW.trod enc P W 0 (fun _ => true) true fuel t [v] = some (d, p)) :
    ∃ z, v = .int k z ∧ (Lit.int k z).wf = true := by
  obtain ⟨n, h1, _, hw⟩ := DataW.trod_int ht h
  simp only [List.cons.injEq, and_true] at h1
  exact ⟨n, h1, hw⟩
theorem bd_u64 {n : Int} (h : (Lit.int .u64 n).wf = true) : 0 ≤ n ∧ n ≤ 18446744073709551615 := by
  simp only [Lit.wf, Bool.and_eq_true, decide_eq_true_eq] at h
  exact h
theorem u64_read {W : World} {t : TypeId} {v : Value} {d : DataW H} {p : List MemPlace} {fuel : Nat} (ht : P.underlying t = some (.int .u64)) (h : DataW.trod enc P W 0 (fun _ => true) true fuel t [v] = some (d, p)) :
    ∃ n : Nat, v = .int .u64 (U n) ∧ n < 18446744073709551616 := by
  obtain ⟨z, rfl, hw⟩ := int_read ht h
  obtain ⟨n, hn, rfl⟩ := U_of_int z (bd_u64 hw).1 (bd_u64 hw).2
  exact ⟨n, rfl, hn⟩
theorem struct_arg {W : World} {base : Nat} {t : TypeId} {fs : Array Field} {v : Value} {d : DataW H} {p : List MemPlace} (ht : P.underlying t = some (.struct fs))
    (hv : Value.okWide P W .any base t v) (h : DataW.Trod enc P W 0 (fun _ => true) true t v d p) (hw : Wt P t d) :
    ∃ cs, v = .agg cs ∧ cs.size = P.cellsOf t ∧ ∃ ds, d = .agg ds ∧ Fields enc P W fs cs.toList ds := by
  obtain ⟨cs, rfl, hs⟩ := okWide_struct ht hv
  obtain ⟨fuel, hf⟩ := h
  exact ⟨cs, rfl, hs, (struct_read ht hf hw).2⟩
end
end Go.Proofs.YtkcipbjikimlfaaDoor

/- The arguments of the frames' laws: a Frame. -/
namespace Go.Proofs.YtkcipbjikimlfaaDoor
open Go.ChangeShapes Go.WideShapes Go.ChangeAt Go.RowKit Go.Deep
section
variable {H : Type} {enc : TypeId × Value → H}
theorem struct_subF {P : Program} {W : World} {t : TypeId} {fs : Array Field} {cs : List Value} {d : DataW H} {p : List MemPlace} {fuel : Nat} (ht : P.underlying t = some (.struct fs))
    (h : DataW.trod enc P W 0 (fun _ => true) true fuel t cs = some (d, p)) (hw : Wt P t d) : cs.length = P.cellsOf t ∧ ∃ ds n, d = .agg ds ∧ ∀ (i u off : Nat), (fs[i]?).map (fun f => (f.type, f.offset)) = some (u, off) → ∃ d' p', DataW.trod enc P W 0 (fun _ => true) true n u ((cs.drop off).take (P.cellsOf u)) = some (d', p') ∧ Wt P u d' ∧ d' ∈ ds := by
  obtain ⟨xs, n, _, hx, hl, hlen, hf⟩ := DataW.trod_struct ht h
  simp only [Prod.mk.injEq] at hx
  rw [hx.1] at hw
  refine ⟨hl, _, n, hx.1, fun i u off hi => ?_⟩
  obtain ⟨f, hi2, e2⟩ := Option.map_eq_some_iff.1 hi
  simp only [Prod.mk.injEq] at e2
  obtain ⟨rfl, rfl⟩ := e2
  have hlt : i < fs.size := (Array.getElem?_eq_some_iff.1 hi2).1
  have e : xs[i]? = some (xs[i]'(by omega)) := List.getElem?_eq_getElem (by omega)
  have h1 := (hf i f hi2).trans e
  refine ⟨(xs[i]'(by omega)).1, (xs[i]'(by omega)).2, h1, hw.field ht hi2 ?_, ?_⟩
  · simp [e]
  · exact List.mem_map.2 ⟨_, List.getElem_mem _, rfl⟩
theorem cells_fi : Tryd.prog.cellsOf 3 = 1 := by kernel_rfl
theorem cells_fb : Tryd.prog.cellsOf 22 = 1 := by kernel_rfl
theorem cells_fu : Tryd.prog.cellsOf 5 = 1 := by kernel_rfl
theorem bytes_fu : Tryd.prog.bytesOf 5 = 1 := by kernel_rfl
end
end Go.Proofs.YtkcipbjikimlfaaDoor

/- What the bound of the second form gives: how many values and letters there are. -/
namespace Go.Proofs.YtkcipbjikimlfaaDoor
theorem bulk_one {H : Type} (d : DataW H) : 1 ≤ Rows.uptoBulk d := by
  cases d with
  | lit l => cases l <;> simp [Rows.uptoBulk]
  | nil => simp [Rows.uptoBulk]
  | ptr d => simp [Rows.uptoBulk]
  | slice elems spare => simp [Rows.uptoBulk]
  | agg parts => simp [Rows.uptoBulk]
  | iface t d => simp [Rows.uptoBulk]
  | map entries => simp [Rows.uptoBulk]
  | held h => simp [Rows.uptoBulk]
theorem bulk_part {H : Type} {d : DataW H} {l : List (DataW H)} (h : d ∈ l) : Rows.uptoBulk d ≤ Rows.uptoBulkAll l := by
  induction l with
  | nil => cases h
  | cons x r ih =>
    simp only [Rows.uptoBulkAll]
    rcases List.mem_cons.1 h with rfl | e
    · omega
    · have := ih e; omega
theorem bulk_len {H : Type} (l : List (DataW H)) : l.length ≤ Rows.uptoBulkAll l := by
  induction l with
  | nil => simp [Rows.uptoBulkAll]
  | cons x r ih => have := bulk_one x; simp only [Rows.uptoBulkAll, List.length_cons]; omega
theorem bulk_dlen {H : Type} (d : DataW H) : dlen d + 1 ≤ Rows.uptoBulk d := by
  cases d with
  | slice elems spare =>
    have := bulk_len elems
    simp only [Rows.uptoBulk, dlen]
    omega
  | lit l => simpa [dlen] using bulk_one (.lit l : DataW H)
  | nil => simpa [dlen] using bulk_one (.nil : DataW H)
  | ptr d => simpa [dlen] using bulk_one (.ptr d : DataW H)
  | agg parts => simpa [dlen] using bulk_one (.agg parts : DataW H)
  | iface t d => simpa [dlen] using bulk_one (.iface t d : DataW H)
  | map entries => simpa [dlen] using bulk_one (.map entries : DataW H)
  | held h => simpa [dlen] using bulk_one (.held h : DataW H)
theorem bulk_bound {H : Type} {l : List (DataW H)} (hk : Rows.uptoSmall H l = true) : Rows.uptoBulkAll l ≤ 1048576 := of_decide_eq_true hk
theorem bulk_arg {H : Type} {l : List (DataW H)} (hk : Rows.uptoSmall H l = true) {d : DataW H} (h : d ∈ l) : dlen d ≤ 1048576 := by
  have h1 := bulk_bound hk
  have h2 := bulk_part h
  have h3 := bulk_dlen d
  omega
end Go.Proofs.YtkcipbjikimlfaaDoor

/- The arguments of the laws: a script of calls, each two numbers and a list of bytes. -/
namespace Go.Proofs.YtkcipbjikimlfaaDoor
open Go.ChangeShapes Go.WideShapes Go.ChangeAt Go.RowKit Go.Deep
/-- a call that is handed in -/
structure OpW where
  kd : Int
  id : Int
  a : Option Addr
  c : Nat
  d : List UInt8
instance : Inhabited OpW := ⟨⟨0, 0, none, 0, []⟩⟩
structure OpW.Ok (w : World) (o : OpW) : Prop where
  kd : -9223372036854775808 ≤ o.kd ∧ o.kd ≤ 9223372036854775807
  id : -9223372036854775808 ≤ o.id ∧ o.id ≤ 9223372036854775807
  len : o.d.length ≤ 140737488351232
  none : o.a = none → o.c = 0
  bytes : Bytes w o.a o.d
theorem OpW.Ok.keep {w w' : World} {o : OpW} (h : o.Ok w) (hf : Fr [] w w') : o.Ok w' := ⟨h.kd, h.id, h.len, h.none, h.bytes.keep hf⟩
/-- a script in memory -/
structure OpsA (w : World) (a : Option Addr) (n : Nat) (F : Nat → OpW) : Prop where
  cell : ∀ k, k < n → ∃ b off, a = some ⟨b, off, none⟩ ∧ w.cell? ⟨b, off + k * 3, none⟩ = some (.int .i64 (F k).kd) ∧ w.cell? ⟨b, off + k * 3 + 1, none⟩ = some (.int .i64 (F k).id) ∧ w.cell? ⟨b, off + k * 3 + 2, none⟩ = some (.slice (F k).a (F k).d.length (F k).c)
  ok : ∀ k, k < n → (F k).Ok w
theorem OpsA.keep {w w' : World} {a : Option Addr} {n : Nat} {F : Nat → OpW} (h : OpsA w a n F) (hf : Fr [] w w') : OpsA w' a n F := by
  refine ⟨fun k hk => ?_, fun k hk => (h.ok k hk).keep hf⟩
  obtain ⟨b, off, e, h0, h1, h2⟩ := h.cell k hk
  exact ⟨b, off, e, hf.cell h0 (by simp), hf.cell h1 (by simp), hf.cell h2 (by simp)⟩
section
variable {H : Type} {enc : TypeId × Value → H}
set_option maxRecDepth 100000 in
theorem cells_opw : Tryd.prog.cellsOf 59 = 3 := by kernel_rfl
set_option maxRecDepth 100000 in
theorem bytes_opw : Tryd.prog.bytesOf 59 = 40 := by kernel_rfl
set_option maxRecDepth 100000 in
theorem opw_read {W : World} {cs : List Value} {d : DataW H} {p : List MemPlace} {fuel : Nat} (h : DataW.trod enc Tryd.prog W 0 (fun _ => true) true fuel 59 cs = some (d, p)) (hw : Wt Tryd.prog 59 d) :
    ∃ o : OpW, cs = [.int .i64 o.kd, .int .i64 o.id, .slice o.a o.d.length o.c] ∧ o.Ok W ∧ ∃ ds d3, d = .agg ds ∧ d3 ∈ ds ∧ o.d.length ≤ dlen d3 := by
  obtain ⟨hs, ds, n, hd, hsub⟩ := struct_subF Tryd.underlying59 h hw
  rw [cells_opw] at hs
  match cs, hs with
  | [v0, v1, v2], _ =>
    obtain ⟨d0, p0, h0, _⟩ := hsub 0 3 0 rfl
    obtain ⟨d1, p1, h1, _⟩ := hsub 1 3 1 rfl
    obtain ⟨d2, p2, h2, w2, m2⟩ := hsub 2 22 2 rfl
    rw [cells_fi] at h0 h1
    rw [cells_fb] at h2
    obtain ⟨z0, rfl, y0⟩ := int_read (v := v0) Tryd.underlying3 h0
    obtain ⟨z1, rfl, y1⟩ := int_read (v := v1) Tryd.underlying3 h1
    obtain ⟨a, c, l, rfl, b1, b2, b3, b4, _⟩ := bytes_read (v := v2) Tryd.underlying22 Tryd.underlying5 cells_fu bytes_fu h2 w2
    exact ⟨⟨z0, z1, a, c, l⟩, rfl, ⟨bd_i64 y0, bd_i64 y1, b1, b2, b3⟩, ds, d2, hd, m2, b4⟩
/-- how much a script holds, by its datum -/
def SmallW (d : DataW H) (n : Nat) (F : Nat → OpW) : Prop :=
  n = 0 ∨ ∃ elems spare, d = .slice elems spare ∧ n ≤ elems.length ∧ ∀ k, k < n → ∃ ds d3, DataW.agg ds ∈ elems ∧ d3 ∈ ds ∧ (F k).d.length ≤ dlen d3
set_option maxRecDepth 100000 in
theorem opsArg {W : World} {base : Nat} {v : Value} {d : DataW H} {p : List MemPlace} (hv : Value.okWide Tryd.prog W .any base 57 v) (h : DataW.Trod enc Tryd.prog W 0 (fun _ => true) true 57 v d p) (hw : Wt Tryd.prog 57 d) :
    ∃ a n cap F, v = .slice a n cap ∧ n ≤ 3518437208883 ∧ OpsA W a n F ∧ SmallW d n F := by
  obtain ⟨a0, len, cap, rfl⟩ := okWide_slice Tryd.underlying57 hv
  obtain ⟨fuel, hf⟩ := h
  rcases open_slice Tryd.underlying57 hf with ⟨hcs, _⟩ | ⟨a, len', cap', m, n, D, Pl, hcs, _, hl, hm, hmm, hx, hel⟩
  · simp [Value.cells] at hcs
    obtain ⟨rfl, rfl, rfl⟩ := hcs
    exact ⟨none, 0, 0, fun _ => default, rfl, by omega, ⟨fun _ h => absurd h (by omega), fun _ h => absurd h (by omega)⟩, .inl rfl⟩
  · simp [Value.cells] at hcs
    obtain ⟨rfl, rfl, rfl⟩ := hcs
    simp only [Prod.mk.injEq] at hx
    rw [hx.1] at hw
    have hs := hw.len Tryd.underlying57
    rw [bytes_opw] at hs
    simp only [List.length_map, List.length_range] at hs
    have hmc : m = cap := by simpa using hmm
    have hread : ∀ k, k < len → ∃ o : OpW, W.cells? 0 (a.add (k * 3)) 3 = some [.int .i64 o.kd, .int .i64 o.id, .slice o.a o.d.length o.c] ∧ o.Ok W ∧ ∃ ds d3, D k = .agg ds ∧ d3 ∈ ds ∧ o.d.length ≤ dlen d3 := by
      intro k hk
      have hwk : Wt Tryd.prog 59 (D k) := hw.elem Tryd.underlying57 (List.mem_map.2 ⟨k, List.mem_range.2 hk, rfl⟩)
      obtain ⟨cs', h1, h2⟩ := hel k (by omega)
      rw [cells_opw] at h1
      obtain ⟨o, rfl, ho⟩ := opw_read h2 hwk
      exact ⟨o, h1, ho⟩
    obtain ⟨F, hF⟩ := Deep.choose_lt (α := OpW) hread
    refine ⟨some a, len, cap, F, rfl, by unfold reachBytes at hs; omega, ⟨fun k hk => ?_, fun k hk => (hF k hk).2.1⟩, .inr ⟨_, _, hx.1, by simp, fun k hk => ?_⟩⟩
    rotate_left
    · obtain ⟨ds, d3, e1, e2, e3⟩ := (hF k hk).2.2
      exact ⟨ds, d3, List.mem_map.2 ⟨k, List.mem_range.2 hk, e1⟩, e2, e3⟩
    obtain ⟨_, _, hc⟩ := World.cells?_some (hF k hk).1
    have h0 := hc 0 (by omega)
    have h1 := hc 1 (by omega)
    have h2 := hc 2 (by omega)
    rw [add_add] at h0 h1 h2
    obtain ⟨b, off, rfl⟩ := addr_eq (a := a) (by
      obtain ⟨_, _, hc0⟩ := World.cells?_some (hF 0 (by omega)).1
      have := spot_none (v := .int .i64 (F 0).kd) (by simpa using hc0 0 (by omega))
      have e : (a.add 0).spot = a.spot := by unfold Addr.add; simp
      simpa [add_add, e] using this)
    rw [Addr.add_lit] at h0 h1 h2
    exact ⟨b, off, rfl, by simpa using h0, by simpa [Nat.add_assoc] using h1, by simpa [Nat.add_assoc] using h2⟩
end
theorem small_boundW {H : Type} {l : List (DataW H)} (hk : Rows.uptoSmall H l = true) {d : DataW H} (hd : d ∈ l) {n : Nat} {F : Nat → OpW} (hs : SmallW d n F) : n ≤ 1048576 ∧ ∀ k, k < n → (F k).d.length ≤ 1048576 := by
  have h1 := bulk_bound hk
  have h2 := bulk_part hd
  rcases hs with rfl | ⟨elems, spare, rfl, hn, hF⟩
  · exact ⟨by omega, fun k h => absurd h (by omega)⟩
  · have h3 := bulk_len elems
    simp only [Rows.uptoBulk] at h2
    refine ⟨by omega, fun k hlt => ?_⟩
    obtain ⟨ds, d3, hm, hm2, hle⟩ := hF k hlt
    have h4 := bulk_part hm
    have h5 := bulk_part hm2
    have h6 := bulk_dlen d3
    simp only [Rows.uptoBulk] at h4
    omega
end Go.Proofs.YtkcipbjikimlfaaDoor
