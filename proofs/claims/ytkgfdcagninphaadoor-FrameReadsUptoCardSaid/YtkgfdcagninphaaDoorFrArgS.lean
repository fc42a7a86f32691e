/- The arguments of the frames' laws: a script of steps. -/
import Derived.Test.YtkgfdcagninphaaDoorFrArgs
import Derived.Test.YtkgfdcagninphaaDoorBulk
import Derived.Deep.DeepHandedRow
namespace Go.Proofs.YtkgfdcagninphaaDoor
open Go.ChangeShapes Go.WideShapes Go.ChangeAt Go.RowKit Go.Deep
/-- a step that is handed in -/
structure StV where
  z : Bool
  a : Option Addr
  c : Nat
  d : List UInt8
instance : Inhabited StV := ⟨⟨false, none, 0, []⟩⟩
structure StV.Ok (w : World) (o : StV) : Prop where
  len : o.d.length ≤ 140737488351232
  none : o.a = none → o.c = 0
  bytes : Bytes w o.a o.d
theorem StV.Ok.keep {w w' : World} {o : StV} (h : o.Ok w) (hf : Fr [] w w') : o.Ok w' := ⟨h.len, h.none, h.bytes.keep hf⟩
/-- a list of frames in memory -/
structure StsA (w : World) (a : Option Addr) (n : Nat) (F : Nat → StV) : Prop where
  cell : ∀ k, k < n → ∃ b off, a = some ⟨b, off, none⟩ ∧ w.cell? ⟨b, off + k * 2, none⟩ = some (.bool (F k).z) ∧ w.cell? ⟨b, off + (k * 2 + 1), none⟩ = some (.slice (F k).a (F k).d.length (F k).c)
  ok : ∀ k, k < n → (F k).Ok w
theorem StsA.keep {w w' : World} {a : Option Addr} {n : Nat} {F : Nat → StV} (h : StsA w a n F) (hf : Fr [] w w') : StsA w' a n F := by
  refine ⟨fun k hk => ?_, fun k hk => (h.ok k hk).keep hf⟩
  obtain ⟨b, off, e, h0, h1⟩ := h.cell k hk
  exact ⟨b, off, e, hf.cell h0 (by simp), hf.cell h1 (by simp)⟩
section
variable {H : Type} {enc : TypeId × Value → H}
theorem cells_sb : Tryd.prog.cellsOf 4 = 1 := by kernel_rfl
theorem cells_st : Tryd.prog.cellsOf 58 = 2 := by kernel_rfl
theorem bool_readS {P : Program} {W : World} {t : TypeId} {v : Value} {d : DataW H} {p : List MemPlace} {fuel : Nat} (ht : P.underlying t = some .bool) (h : DataW.trod enc P W 0 (fun _ => true) true fuel t [v] = some (d, p)) :
    ∃ b, v = .bool b := by
  obtain ⟨b, h1, _⟩ := DataW.trod_bool ht h
  simp only [List.cons.injEq, and_true] at h1
  exact ⟨b, h1⟩
theorem bytes_st : Tryd.prog.bytesOf 58 = 32 := by kernel_rfl
theorem step_read {W : World} {cs : List Value} {d : DataW H} {p : List MemPlace} {fuel : Nat} (h : DataW.trod enc Tryd.prog W 0 (fun _ => true) true fuel 58 cs = some (d, p)) (hw : Wt Tryd.prog 58 d) :
    ∃ o : StV, cs = [.bool o.z, .slice o.a o.d.length o.c] ∧ o.Ok W ∧ ∃ ds d3, d = .agg ds ∧ d3 ∈ ds ∧ o.d.length ≤ dlen d3 := by
  obtain ⟨hs, ds, n, hd, hsub⟩ := struct_subF Tryd.underlying58 h hw
  rw [cells_st] at hs
  match cs, hs with
  | [v0, v1], _ =>
    obtain ⟨d0, p0, h0, _⟩ := hsub 0 4 0 rfl
    obtain ⟨d1, p1, h1, w1, m1⟩ := hsub 1 23 1 rfl
    rw [cells_sb] at h0
    rw [cells_fb] at h1
    obtain ⟨z, rfl⟩ := bool_readS (v := v0) Tryd.underlying4 h0
    obtain ⟨a, c, l, rfl, b1, b2, b3, b4, _⟩ := bytes_read (v := v1) Tryd.underlying23 Tryd.underlying5 cells_fu bytes_fu h1 w1
    exact ⟨⟨z, a, c, l⟩, rfl, ⟨b1, b2, b3⟩, ds, d1, hd, m1, b4⟩
/-- how much a list of frames holds, by its datum -/
def SmallS (d : DataW H) (n : Nat) (F : Nat → StV) : Prop :=
  n = 0 ∨ ∃ elems spare, d = .slice elems spare ∧ n ≤ elems.length ∧ ∀ k, k < n → ∃ ds d3, DataW.agg ds ∈ elems ∧ d3 ∈ ds ∧ (F k).d.length ≤ dlen d3
theorem stepsArg {W : World} {base : Nat} {v : Value} {d : DataW H} {p : List MemPlace} (hv : Value.okWide Tryd.prog W .any base 56 v) (h : DataW.Trod enc Tryd.prog W 0 (fun _ => true) true 56 v d p) (hw : Wt Tryd.prog 56 d) :
    ∃ a n cap F, v = .slice a n cap ∧ n ≤ 4398046511104 ∧ StsA W a n F ∧ SmallS d n F := by
  obtain ⟨a0, len, cap, rfl⟩ := okWide_slice Tryd.underlying56 hv
  obtain ⟨fuel, hf⟩ := h
  rcases open_slice Tryd.underlying56 hf with ⟨hcs, _⟩ | ⟨a, len', cap', m, n, D, Pl, hcs, _, hl, hm, hmm, hx, hel⟩
  · simp [Value.cells] at hcs
    obtain ⟨rfl, rfl, rfl⟩ := hcs
    exact ⟨none, 0, 0, fun _ => default, rfl, by omega, ⟨fun _ h => absurd h (by omega), fun _ h => absurd h (by omega)⟩, .inl rfl⟩
  · simp [Value.cells] at hcs
    obtain ⟨rfl, rfl, rfl⟩ := hcs
    simp only [Prod.mk.injEq] at hx
    rw [hx.1] at hw
    have hs := hw.len Tryd.underlying56
    rw [bytes_st] at hs
    simp only [List.length_map, List.length_range] at hs
    have hmc : m = cap := by simpa using hmm
    have hread : ∀ k, k < len → ∃ o : StV, W.cells? 0 (a.add (k * 2)) 2 = some [.bool o.z, .slice o.a o.d.length o.c] ∧ o.Ok W ∧ ∃ ds d3, D k = .agg ds ∧ d3 ∈ ds ∧ o.d.length ≤ dlen d3 := by
      intro k hk
      have hwk : Wt Tryd.prog 58 (D k) := hw.elem Tryd.underlying56 (List.mem_map.2 ⟨k, List.mem_range.2 hk, rfl⟩)
      obtain ⟨cs', h1, h2⟩ := hel k (by omega)
      rw [cells_st] at h1
      obtain ⟨o, rfl, ho⟩ := step_read h2 hwk
      exact ⟨o, h1, ho⟩
    obtain ⟨F, hF⟩ := Deep.choose_lt (α := StV) hread
    refine ⟨some a, len, cap, F, rfl, by unfold reachBytes at hs; omega, ⟨fun k hk => ?_, fun k hk => (hF k hk).2.1⟩, .inr ⟨_, _, hx.1, by simp, fun k hk => ?_⟩⟩
    rotate_left
    · obtain ⟨ds, d3, e1, e2, e3⟩ := (hF k hk).2.2
      exact ⟨ds, d3, List.mem_map.2 ⟨k, List.mem_range.2 hk, e1⟩, e2, e3⟩
    obtain ⟨_, _, hc⟩ := World.cells?_some (hF k hk).1
    have h0 := hc 0 (by omega)
    have h1 := hc 1 (by omega)
    rw [add_add] at h0 h1
    obtain ⟨b, off, rfl⟩ := addr_eq (a := a) (by
      obtain ⟨_, _, hc0⟩ := World.cells?_some (hF 0 (by omega)).1
      have := spot_none (v := .bool (F 0).z) (by simpa using hc0 0 (by omega))
      have e : (a.add 0).spot = a.spot := by unfold Addr.add; simp
      simpa [add_add, e] using this)
    rw [Addr.add_lit] at h0 h1
    exact ⟨b, off, rfl, by simpa using h0, by simpa using h1⟩
end
theorem small_boundS {H : Type} {l : List (DataW H)} (hk : Rows.uptoSmall H l = true) {d : DataW H} (hd : d ∈ l) {n : Nat} {F : Nat → StV} (hs : SmallS d n F) : n ≤ 1048576 ∧ ∀ k, k < n → (F k).d.length ≤ 1048576 := by
  have h1 := bulk_bound hk
  have h2 := bulk_part hd
  rcases hs with rfl | ⟨elems, spare, rfl, hn, hF⟩
  · exact ⟨by omega, fun k h => absurd h (by omega)⟩
  · have h3 := bulk_len elems
    simp only [Rows.uptoBulk] at h2
    refine ⟨by omega, fun k hlt => ?_⟩
    obtain ⟨ds, d3, hm, hm2, hle⟩ := hF k hlt
    have h4 := bulk_part hm
    have h5 := bulk_part hm2
    have h6 := bulk_dlen d3
    simp only [Rows.uptoBulk] at h4
    omega
end Go.Proofs.YtkgfdcagninphaaDoor
