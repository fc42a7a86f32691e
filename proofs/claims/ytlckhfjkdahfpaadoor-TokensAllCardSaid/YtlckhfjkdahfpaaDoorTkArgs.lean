/- How structs and lists of structs in arguments are opened. No program. -/
import Derived.Test.YtlckhfjkdahfpaaDoorLaw
import Derived.Test.YtlckhfjkdahfpaaDoorU64
import Derived.Test.YtlckhfjkdahfpaaDoorFresh
import Derived.Test.YtlckhfjkdahfpaaDoorRecC
import Derived.Test.YtlckhfjkdahfpaaDoorRows
import Derived.Deep.DeepHandedRow
namespace Go.Proofs.YtlckhfjkdahfpaaDoor
open Go.ChangeShapes Go.WideShapes Go.ChangeAt Go.RowKit Go.Deep
section
variable {H : Type} {enc : TypeId × Value → H} {P : Program}
theorem Wt.field {t : TypeId} {fs : Array Field} {ds : List (DataW H)} (h : Wt P t (.agg ds)) (hu : P.underlying t = some (.struct fs)) {i : Nat} {f : Field} {d : DataW H} (hf : fs[i]? = some f) (hd : ds[i]? = some d) : Wt P f.type d := by
  intro n hn
  apply h
  unfold DataW.weights
  rw [hu]
  exact DataW.weights_mem_each (j := i) (by simp [hf]) hd n hn
/-- each field of one cell reads by its type -/
def Fields (enc : TypeId × Value → H) (P : Program) (W : World) (fs : Array Field) (cs : List Value) (ds : List (DataW H)) : Prop :=
  ∃ n, ∀ (i t off : Nat), (fs[i]?).map (fun f => (f.type, f.offset)) = some (t, off) → ∀ v, cs[off]? = some v → P.cellsOf t = 1 → ∃ d' p', DataW.trod enc P W 0 (fun _ => true) true n t [v] = some (d', p') ∧ Wt P t d' ∧ d' ∈ ds
theorem struct_read {W : World} {t : TypeId} {fs : Array Field} {cs : List Value} {d : DataW H} {p : List MemPlace} {fuel : Nat} (ht : P.underlying t = some (.struct fs))
    (h : DataW.trod enc P W 0 (fun _ => true) true fuel t cs = some (d, p)) (hw : Wt P t d) : cs.length = P.cellsOf t ∧ ∃ ds, d = .agg ds ∧ Fields enc P W fs cs ds := by
  obtain ⟨xs, n, _, hx, hl, hlen, hf⟩ := DataW.trod_struct ht h
  simp only [Prod.mk.injEq] at hx
  rw [hx.1] at hw
  refine ⟨hl, _, hx.1, n, fun i t off hi v hv hc => ?_⟩
  obtain ⟨f, hi2, e2⟩ := Option.map_eq_some_iff.1 hi
  simp only [Prod.mk.injEq] at e2
  obtain ⟨rfl, rfl⟩ := e2
  have hlt : i < fs.size := (Array.getElem?_eq_some_iff.1 hi2).1
  have e : xs[i]? = some (xs[i]'(by omega)) := List.getElem?_eq_getElem (by omega)
  have h1 := (hf i f hi2).trans e
  obtain ⟨hlt2, hv2⟩ := List.getElem?_eq_some_iff.1 hv
  rw [hc, List.drop_eq_getElem_cons hlt2, hv2] at h1
  refine ⟨(xs[i]'(by omega)).1, (xs[i]'(by omega)).2, by simpa using h1, hw.field ht hi2 ?_, ?_⟩
  · simp [e]
  · exact List.mem_map.2 ⟨_, List.getElem_mem _, rfl⟩
theorem int_read {W : World} {t : TypeId} {k : IntKind} {v : Value} {d : DataW H} {p : List MemPlace} {fuel : Nat} (ht : P.underlying t = some (.int k)) (h : DataW.trod enc P W 0 (fun _ => true) true fuel t [v] = some (d, p)) :
    ∃ z, v = .int k z ∧ (Lit.int k z).wf = true := by
  obtain ⟨n, h1, _, hw⟩ := DataW.trod_int ht h
  simp only [List.cons.injEq, and_true] at h1
  exact ⟨n, h1, hw⟩
theorem bd_u64 {n : Int} (h : (Lit.int .u64 n).wf = true) : 0 ≤ n ∧ n ≤ 18446744073709551615 := by
  simp only [Lit.wf, Bool.and_eq_true, decide_eq_true_eq] at h
  exact h
theorem u64_read {W : World} {t : TypeId} {v : Value} {d : DataW H} {p : List MemPlace} {fuel : Nat} (ht : P.underlying t = some (.int .u64)) (h : DataW.trod enc P W 0 (fun _ => true) true fuel t [v] = some (d, p)) :
    ∃ n : Nat, v = .int .u64 (U n) ∧ n < 18446744073709551616 := by
  obtain ⟨z, rfl, hw⟩ := int_read ht h
  obtain ⟨n, hn, rfl⟩ := U_of_int z (bd_u64 hw).1 (bd_u64 hw).2
  exact ⟨n, rfl, hn⟩
theorem struct_arg {W : World} {base : Nat} {t : TypeId} {fs : Array Field} {v : Value} {d : DataW H} {p : List MemPlace} (ht : P.underlying t = some (.struct fs))
    (hv : Value.okWide P W .any base t v) (h : DataW.Trod enc P W 0 (fun _ => true) true t v d p) (hw : Wt P t d) :
    ∃ cs, v = .agg cs ∧ cs.size = P.cellsOf t ∧ ∃ ds, d = .agg ds ∧ Fields enc P W fs cs.toList ds := by
  obtain ⟨cs, rfl, hs⟩ := okWide_struct ht hv
  obtain ⟨fuel, hf⟩ := h
  exact ⟨cs, rfl, hs, (struct_read ht hf hw).2⟩
end
end Go.Proofs.YtlckhfjkdahfpaaDoor

/- The arguments of the frames' laws: a Frame. -/
namespace Go.Proofs.YtlckhfjkdahfpaaDoor
open Go.ChangeShapes Go.WideShapes Go.ChangeAt Go.RowKit Go.Deep
section
variable {H : Type} {enc : TypeId × Value → H}
theorem struct_subF {P : Program} {W : World} {t : TypeId} {fs : Array Field} {cs : List Value} {d : DataW H} {p : List MemPlace} {fuel : Nat} (ht : P.underlying t = some (.struct fs))
    (h : DataW.trod enc P W 0 (fun _ => true) true fuel t cs = some (d, p)) (hw : Wt P t d) : cs.length = P.cellsOf t ∧ ∃ ds n, d = .agg ds ∧ ∀ (i u off : Nat), (fs[i]?).map (fun f => (f.type, f.offset)) = some (u, off) → ∃ d' p', DataW.trod enc P W 0 (fun _ => true) true n u ((cs.drop off).take (P.cellsOf u)) = some (d', p') ∧ Wt P u d' ∧ d' ∈ ds := by
  obtain ⟨xs, n, _, hx, hl, hlen, hf⟩ := DataW.trod_struct ht h
  simp only [Prod.mk.injEq] at hx
  rw [hx.1] at hw
  refine ⟨hl, _, n, hx.1, fun i u off hi => ?_⟩
  obtain ⟨f, hi2, e2⟩ := Option.map_eq_some_iff.1 hi
  simp only [Prod.mk.injEq] at e2
  obtain ⟨rfl, rfl⟩ := e2
  have hlt : i < fs.size := (Array.getElem?_eq_some_iff.1 hi2).1
  have e : xs[i]? = some (xs[i]'(by omega)) := List.getElem?_eq_getElem (by omega)
  have h1 := (hf i f hi2).trans e
  refine ⟨(xs[i]'(by omega)).1, (xs[i]'(by omega)).2, h1, hw.field ht hi2 ?_, ?_⟩
  · simp [e]
  · exact List.mem_map.2 ⟨_, List.getElem_mem _, rfl⟩
theorem cells_fi : Tryd.prog.cellsOf 3 = 1 := by kernel_rfl
theorem cells_fb : Tryd.prog.cellsOf 37 = 1 := by kernel_rfl
theorem cells_fu : Tryd.prog.cellsOf 5 = 1 := by kernel_rfl
theorem bytes_fu : Tryd.prog.bytesOf 5 = 1 := by kernel_rfl
end
end Go.Proofs.YtlckhfjkdahfpaaDoor

/- What the bound of the second form gives: how many values and letters there are. -/
namespace Go.Proofs.YtlckhfjkdahfpaaDoor
theorem bulk_one {H : Type} (d : DataW H) : 1 ≤ Rows.uptoBulk d := by
  cases d with
  | lit l => cases l <;> simp [Rows.uptoBulk]
  | nil => simp [Rows.uptoBulk]
  | ptr d => simp [Rows.uptoBulk]
  | slice elems spare => simp [Rows.uptoBulk]
  | agg parts => simp [Rows.uptoBulk]
  | iface t d => simp [Rows.uptoBulk]
  | map entries => simp [Rows.uptoBulk]
  | held h => simp [Rows.uptoBulk]
theorem bulk_part {H : Type} {d : DataW H} {l : List (DataW H)} (h : d ∈ l) : Rows.uptoBulk d ≤ Rows.uptoBulkAll l := by
  induction l with
  | nil => cases h
  | cons x r ih =>
    simp only [Rows.uptoBulkAll]
    rcases List.mem_cons.1 h with rfl | e
    · omega
    · have := ih e; omega
theorem bulk_len {H : Type} (l : List (DataW H)) : l.length ≤ Rows.uptoBulkAll l := by
  induction l with
  | nil => simp [Rows.uptoBulkAll]
  | cons x r ih => have := bulk_one x; simp only [Rows.uptoBulkAll, List.length_cons]; omega
theorem bulk_dlen {H : Type} (d : DataW H) : dlen d + 1 ≤ Rows.uptoBulk d := by
  cases d with
  | slice elems spare =>
    have := bulk_len elems
    simp only [Rows.uptoBulk, dlen]
    omega
  | lit l => simpa [dlen] using bulk_one (.lit l : DataW H)
  | nil => simpa [dlen] using bulk_one (.nil : DataW H)
  | ptr d => simpa [dlen] using bulk_one (.ptr d : DataW H)
  | agg parts => simpa [dlen] using bulk_one (.agg parts : DataW H)
  | iface t d => simpa [dlen] using bulk_one (.iface t d : DataW H)
  | map entries => simpa [dlen] using bulk_one (.map entries : DataW H)
  | held h => simpa [dlen] using bulk_one (.held h : DataW H)
theorem bulk_bound {H : Type} {l : List (DataW H)} (hk : Rows.uptoSmall H l = true) : Rows.uptoBulkAll l ≤ 1048576 := of_decide_eq_true hk
theorem bulk_arg {H : Type} {l : List (DataW H)} (hk : Rows.uptoSmall H l = true) {d : DataW H} (h : d ∈ l) : dlen d ≤ 1048576 := by
  have h1 := bulk_bound hk
  have h2 := bulk_part h
  have h3 := bulk_dlen d
  omega
end Go.Proofs.YtlckhfjkdahfpaaDoor

/- The arguments of the tokens' laws: a script of calls (two numbers and a name), names, what Open is given. -/
namespace Go.Proofs.YtlckhfjkdahfpaaDoor
open Go.ChangeShapes Go.WideShapes Go.ChangeAt Go.RowKit Go.Deep
/-- a call that is handed in -/
structure OpT where
  kd : Int
  id : Int
  d : List UInt8
instance : Inhabited OpT := ⟨⟨0, 0, []⟩⟩
/-- a script in memory -/
structure OpsT (w : World) (a : Option Addr) (n : Nat) (F : Nat → OpT) : Prop where
  cell : ∀ k, k < n → ∃ b off, a = some ⟨b, off, none⟩ ∧ w.cell? ⟨b, off + k * 3, none⟩ = some (.int .i64 (F k).kd) ∧ w.cell? ⟨b, off + k * 3 + 1, none⟩ = some (.int .i64 (F k).id) ∧ w.cell? ⟨b, off + k * 3 + 2, none⟩ = some (.string ⟨(F k).d.toArray⟩)
  len : ∀ k, k < n → (F k).d.length ≤ 140737488351232
theorem OpsT.keep {w w' : World} {a : Option Addr} {n : Nat} {F : Nat → OpT} (h : OpsT w a n F) (hf : Fr [] w w') : OpsT w' a n F := by
  refine ⟨fun k hk => ?_, h.len⟩
  obtain ⟨b, off, e, h0, h1, h2⟩ := h.cell k hk
  exact ⟨b, off, e, hf.cell h0 (by simp), hf.cell h1 (by simp), hf.cell h2 (by simp)⟩
/-- names in memory -/
structure NmsA (w : World) (a : Option Addr) (n : Nat) (F : Nat → List UInt8) : Prop where
  cell : ∀ k, k < n → ∃ b off, a = some ⟨b, off, none⟩ ∧ w.cell? ⟨b, off + k, none⟩ = some (.string ⟨(F k).toArray⟩)
  len : ∀ k, k < n → (F k).length ≤ 140737488351232
theorem NmsA.keep {w w' : World} {a : Option Addr} {n : Nat} {F : Nat → List UInt8} (h : NmsA w a n F) (hf : Fr [] w w') : NmsA w' a n F := by
  refine ⟨fun k hk => ?_, h.len⟩
  obtain ⟨b, off, e, h0⟩ := h.cell k hk
  exact ⟨b, off, e, hf.cell h0 (by simp)⟩
section
variable {H : Type} {enc : TypeId × Value → H}
theorem string_read {P : Program} {W : World} {t : TypeId} {v : Value} {d : DataW H} {p : List MemPlace} {fuel : Nat} (ht : P.underlying t = some .string) (h : DataW.trod enc P W 0 (fun _ => true) true fuel t [v] = some (d, p)) (hw : Wt P t d) :
    ∃ l : List UInt8, v = .string ⟨l.toArray⟩ ∧ d = .lit (.string l) ∧ l.length ≤ 140737488351232 := by
  obtain ⟨s, h1, hx, _⟩ := DataW.trod_string ht h
  simp only [List.cons.injEq, and_true] at h1
  simp only [Prod.mk.injEq] at hx
  obtain ⟨⟨ls⟩⟩ := s
  have hd : d = .lit (.string ls) := hx.1
  refine ⟨ls, h1, hd, ?_⟩
  have hb : ls.length ≤ reachBytes := hw ls.length (by
    rw [hd]
    unfold DataW.weights
    simp)
  unfold reachBytes at hb
  omega
set_option maxRecDepth 100000 in
theorem cells_fs : Tryd.prog.cellsOf 9 = 1 := by kernel_rfl
set_option maxRecDepth 100000 in
theorem bytes_fs : Tryd.prog.bytesOf 9 = 16 := by kernel_rfl
set_option maxRecDepth 100000 in
theorem cells_opt : Tryd.prog.cellsOf 47 = 3 := by kernel_rfl
set_option maxRecDepth 100000 in
theorem bytes_opt : Tryd.prog.bytesOf 47 = 32 := by kernel_rfl
set_option maxRecDepth 100000 in
theorem opt_read {W : World} {cs : List Value} {d : DataW H} {p : List MemPlace} {fuel : Nat} (h : DataW.trod enc Tryd.prog W 0 (fun _ => true) true fuel 47 cs = some (d, p)) (hw : Wt Tryd.prog 47 d) :
    ∃ o : OpT, cs = [.int .i64 o.kd, .int .i64 o.id, .string ⟨o.d.toArray⟩] ∧ o.d.length ≤ 140737488351232 := by
  obtain ⟨hs, ds, n, hd, hsub⟩ := struct_subF Tryd.underlying47 h hw
  rw [cells_opt] at hs
  match cs, hs with
  | [v0, v1, v2], _ =>
    obtain ⟨d0, p0, h0, _⟩ := hsub 0 3 0 rfl
    obtain ⟨d1, p1, h1, _⟩ := hsub 1 3 1 rfl
    obtain ⟨d2, p2, h2, w2, m2⟩ := hsub 2 9 2 rfl
    rw [cells_fi] at h0 h1
    rw [cells_fs] at h2
    obtain ⟨z0, rfl, y0⟩ := int_read (v := v0) Tryd.underlying3 h0
    obtain ⟨z1, rfl, y1⟩ := int_read (v := v1) Tryd.underlying3 h1
    obtain ⟨l, rfl, -, b1⟩ := string_read (v := v2) Tryd.underlying9 h2 w2
    exact ⟨⟨z0, z1, l⟩, rfl, b1⟩
set_option maxRecDepth 100000 in
theorem opsArgT {W : World} {base : Nat} {v : Value} {d : DataW H} {p : List MemPlace} (hv : Value.okWide Tryd.prog W .any base 42 v) (h : DataW.Trod enc Tryd.prog W 0 (fun _ => true) true 42 v d p) (hw : Wt Tryd.prog 42 d) :
    ∃ a n cap F, v = .slice a n cap ∧ n ≤ 4398046510976 ∧ OpsT W a n F := by
  obtain ⟨a0, len, cap, rfl⟩ := okWide_slice Tryd.underlying42 hv
  obtain ⟨fuel, hf⟩ := h
  rcases open_slice Tryd.underlying42 hf with ⟨hcs, _⟩ | ⟨a, len', cap', m, n, D, Pl, hcs, _, hl, hm, hmm, hx, hel⟩
  · simp [Value.cells] at hcs
    obtain ⟨rfl, rfl, rfl⟩ := hcs
    exact ⟨none, 0, 0, fun _ => default, rfl, by omega, ⟨fun _ h => absurd h (by omega), fun _ h => absurd h (by omega)⟩⟩
  · simp [Value.cells] at hcs
    obtain ⟨rfl, rfl, rfl⟩ := hcs
    simp only [Prod.mk.injEq] at hx
    rw [hx.1] at hw
    have hs := hw.len Tryd.underlying42
    rw [bytes_opt] at hs
    simp only [List.length_map, List.length_range] at hs
    have hmc : m = cap := by simpa using hmm
    have hread : ∀ k, k < len → ∃ o : OpT, W.cells? 0 (a.add (k * 3)) 3 = some [.int .i64 o.kd, .int .i64 o.id, .string ⟨o.d.toArray⟩] ∧ o.d.length ≤ 140737488351232 := by
      intro k hk
      have hwk : Wt Tryd.prog 47 (D k) := hw.elem Tryd.underlying42 (List.mem_map.2 ⟨k, List.mem_range.2 hk, rfl⟩)
      obtain ⟨cs', h1, h2⟩ := hel k (by omega)
      rw [cells_opt] at h1
      obtain ⟨o, rfl, ho⟩ := opt_read h2 hwk
      exact ⟨o, h1, ho⟩
    obtain ⟨F, hF⟩ := Deep.choose_lt (α := OpT) hread
    refine ⟨some a, len, cap, F, rfl, by unfold reachBytes at hs; omega, ⟨fun k hk => ?_, fun k hk => (hF k hk).2⟩⟩
    obtain ⟨_, _, hc⟩ := World.cells?_some (hF k hk).1
    have h0 := hc 0 (by omega)
    have h1 := hc 1 (by omega)
    have h2 := hc 2 (by omega)
    rw [add_add] at h0 h1 h2
    obtain ⟨b, off, rfl⟩ := addr_eq (a := a) (by
      obtain ⟨_, _, hc0⟩ := World.cells?_some (hF 0 (by omega)).1
      have := spot_none (v := .int .i64 (F 0).kd) (by simpa using hc0 0 (by omega))
      have e : (a.add 0).spot = a.spot := by unfold Addr.add; simp
      simpa [add_add, e] using this)
    rw [Addr.add_lit] at h0 h1 h2
    exact ⟨b, off, rfl, by simpa using h0, by simpa [Nat.add_assoc] using h1, by simpa [Nat.add_assoc] using h2⟩
set_option maxRecDepth 100000 in
theorem namesArg {W : World} {base : Nat} {v : Value} {d : DataW H} {p : List MemPlace} (hv : Value.okWide Tryd.prog W .any base 23 v) (h : DataW.Trod enc Tryd.prog W 0 (fun _ => true) true 23 v d p) (hw : Wt Tryd.prog 23 d) :
    ∃ a n cap F, v = .slice a n cap ∧ n ≤ 8796093021952 ∧ NmsA W a n F := by
  obtain ⟨a0, len, cap, rfl⟩ := okWide_slice Tryd.underlying23 hv
  obtain ⟨fuel, hf⟩ := h
  rcases open_slice Tryd.underlying23 hf with ⟨hcs, _⟩ | ⟨a, len', cap', m, n, D, Pl, hcs, _, hl, hm, hmm, hx, hel⟩
  · simp [Value.cells] at hcs
    obtain ⟨rfl, rfl, rfl⟩ := hcs
    exact ⟨none, 0, 0, fun _ => default, rfl, by omega, ⟨fun _ h => absurd h (by omega), fun _ h => absurd h (by omega)⟩⟩
  · simp [Value.cells] at hcs
    obtain ⟨rfl, rfl, rfl⟩ := hcs
    simp only [Prod.mk.injEq] at hx
    rw [hx.1] at hw
    have hs := hw.len Tryd.underlying23
    rw [bytes_fs] at hs
    simp only [List.length_map, List.length_range] at hs
    have hmc : m = cap := by simpa using hmm
    have hread : ∀ k, k < len → ∃ o : List UInt8, W.cells? 0 (a.add (k * 1)) 1 = some [.string ⟨o.toArray⟩] ∧ o.length ≤ 140737488351232 := by
      intro k hk
      have hwk : Wt Tryd.prog 9 (D k) := hw.elem Tryd.underlying23 (List.mem_map.2 ⟨k, List.mem_range.2 hk, rfl⟩)
      obtain ⟨cs', h1, h2⟩ := hel k (by omega)
      rw [cells_fs] at h1
      obtain ⟨hl1, _⟩ := World.cells?_some h1
      match cs', hl1 with
      | [u], _ =>
        obtain ⟨l, rfl, -, b1⟩ := string_read (v := u) Tryd.underlying9 h2 hwk
        exact ⟨l, h1, b1⟩
    obtain ⟨F, hF⟩ := Deep.choose_lt (α := List UInt8) hread
    refine ⟨some a, len, cap, F, rfl, by unfold reachBytes at hs; omega, ⟨fun k hk => ?_, fun k hk => (hF k hk).2⟩⟩
    obtain ⟨_, _, hc⟩ := World.cells?_some (hF k hk).1
    have h0 := hc 0 (by omega)
    rw [add_add] at h0
    obtain ⟨b, off, rfl⟩ := addr_eq (a := a) (by
      obtain ⟨_, _, hc0⟩ := World.cells?_some (hF 0 (by omega)).1
      have := spot_none (v := .string ⟨(F 0).toArray⟩) (by simpa using hc0 0 (by omega))
      have e : (a.add 0).spot = a.spot := by unfold Addr.add; simp
      simpa [add_add, e] using this)
    rw [Addr.add_lit] at h0
    exact ⟨b, off, rfl, by simpa using h0⟩
set_option maxRecDepth 100000 in
theorem cells_gv : Tryd.prog.cellsOf 52 = 3 := by kernel_rfl
set_option maxRecDepth 100000 in
theorem givenArg {W : World} {base : Nat} {v : Value} {d : DataW H} {p : List MemPlace} (hv : Value.okWide Tryd.prog W .any base 52 v) (h : DataW.Trod enc Tryd.prog W 0 (fun _ => true) true 52 v d p) (hw : Wt Tryd.prog 52 d) :
    ∃ (sa : Option Addr) (sc : Nat) (sl : List UInt8) (x y : Int), v = .agg #[.slice sa sl.length sc, .int .i64 x, .int .i64 y] ∧ sl.length ≤ 140737488351232 ∧ (sa = none → sc = 0) ∧ Bytes W sa sl ∧ sl.length ≤ sc := by
  obtain ⟨cs, rfl, hs⟩ := okWide_struct Tryd.underlying52 hv
  obtain ⟨fuel, hf⟩ := h
  obtain ⟨_, ds, n, _, hsub⟩ := struct_subF Tryd.underlying52 hf hw
  rw [cells_gv] at hs
  obtain ⟨cl⟩ := cs
  replace hs : cl.length = 3 := hs
  match cl, hs with
  | [v0, v1, v2], _ =>
    obtain ⟨d0, p0, h0, w0, _⟩ := hsub 0 37 0 rfl
    obtain ⟨d1, p1, h1, _⟩ := hsub 1 3 1 rfl
    obtain ⟨d2, p2, h2, _⟩ := hsub 2 3 2 rfl
    rw [cells_fb] at h0
    rw [cells_fi] at h1 h2
    obtain ⟨x, rfl, _⟩ := int_read (v := v1) Tryd.underlying3 h1
    obtain ⟨y, rfl, _⟩ := int_read (v := v2) Tryd.underlying3 h2
    obtain ⟨sa, sc, sl, rfl, b1, b2, b3, b4, b5⟩ := bytes_read (v := v0) Tryd.underlying37 Tryd.underlying5 cells_fu bytes_fu h0 w0
    exact ⟨sa, sc, sl, x, y, rfl, b1, b2, b3, b5⟩
end
end Go.Proofs.YtlckhfjkdahfpaaDoor
