/- The arguments of the frames' laws: a list of Frames. -/
import Derived.Test.YtkgfdcagninphaaDoorFrArgs
import Derived.Deep.DeepHandedRow
namespace Go.Proofs.YtkgfdcagninphaaDoor
open Go.ChangeShapes Go.WideShapes Go.ChangeAt Go.RowKit Go.Deep
/-- a frame that is handed in -/
structure FV where
  z : Int
  a : Option Addr
  c : Nat
  d : List UInt8
instance : Inhabited FV := ⟨⟨0, none, 0, []⟩⟩
structure FV.Ok (w : World) (o : FV) : Prop where
  len : o.d.length ≤ 140737488351232
  none : o.a = none → o.c = 0
  bytes : Bytes w o.a o.d
theorem FV.Ok.keep {w w' : World} {o : FV} (h : o.Ok w) (hf : Fr [] w w') : o.Ok w' := ⟨h.len, h.none, h.bytes.keep hf⟩
/-- a list of frames in memory -/
structure FrsA (w : World) (a : Option Addr) (n : Nat) (F : Nat → FV) : Prop where
  cell : ∀ k, k < n → ∃ b off, a = some ⟨b, off, none⟩ ∧ w.cell? ⟨b, off + k * 2, none⟩ = some (.int .i64 (F k).z) ∧ w.cell? ⟨b, off + (k * 2 + 1), none⟩ = some (.slice (F k).a (F k).d.length (F k).c)
  ok : ∀ k, k < n → (F k).Ok w
theorem FrsA.keep {w w' : World} {a : Option Addr} {n : Nat} {F : Nat → FV} (h : FrsA w a n F) (hf : Fr [] w w') : FrsA w' a n F := by
  refine ⟨fun k hk => ?_, fun k hk => (h.ok k hk).keep hf⟩
  obtain ⟨b, off, e, h0, h1⟩ := h.cell k hk
  exact ⟨b, off, e, hf.cell h0 (by simp), hf.cell h1 (by simp)⟩
section
variable {H : Type} {enc : TypeId × Value → H}
theorem bytes_ff : Tryd.prog.bytesOf 25 = 32 := by kernel_rfl
theorem frame_read {W : World} {cs : List Value} {d : DataW H} {p : List MemPlace} {fuel : Nat} (h : DataW.trod enc Tryd.prog W 0 (fun _ => true) true fuel 25 cs = some (d, p)) (hw : Wt Tryd.prog 25 d) :
    ∃ o : FV, cs = [.int .i64 o.z, .slice o.a o.d.length o.c] ∧ o.Ok W ∧ ∃ ds d3, d = .agg ds ∧ d3 ∈ ds ∧ o.d.length ≤ dlen d3 := by
  obtain ⟨hs, ds, n, hd, hsub⟩ := struct_subF Tryd.underlying25 h hw
  rw [cells_ff] at hs
  match cs, hs with
  | [v0, v1], _ =>
    obtain ⟨d0, p0, h0, _⟩ := hsub 0 3 0 rfl
    obtain ⟨d1, p1, h1, w1, m1⟩ := hsub 1 23 1 rfl
    rw [cells_fi] at h0
    rw [cells_fb] at h1
    obtain ⟨z, rfl, _⟩ := int_read (v := v0) Tryd.underlying3 h0
    obtain ⟨a, c, l, rfl, b1, b2, b3, b4, _⟩ := bytes_read (v := v1) Tryd.underlying23 Tryd.underlying5 cells_fu bytes_fu h1 w1
    exact ⟨⟨z, a, c, l⟩, rfl, ⟨b1, b2, b3⟩, ds, d1, hd, m1, b4⟩
/-- how much a list of frames holds, by its datum -/
def SmallF (d : DataW H) (n : Nat) (F : Nat → FV) : Prop :=
  n = 0 ∨ ∃ elems spare, d = .slice elems spare ∧ n ≤ elems.length ∧ ∀ k, k < n → ∃ ds d3, DataW.agg ds ∈ elems ∧ d3 ∈ ds ∧ (F k).d.length ≤ dlen d3
theorem framesArg {W : World} {base : Nat} {v : Value} {d : DataW H} {p : List MemPlace} (hv : Value.okWide Tryd.prog W .any base 35 v) (h : DataW.Trod enc Tryd.prog W 0 (fun _ => true) true 35 v d p) (hw : Wt Tryd.prog 35 d) :
    ∃ a n cap F, v = .slice a n cap ∧ n ≤ 4398046511104 ∧ FrsA W a n F ∧ SmallF d n F := by
  obtain ⟨a0, len, cap, rfl⟩ := okWide_slice Tryd.underlying35 hv
  obtain ⟨fuel, hf⟩ := h
  rcases open_slice Tryd.underlying35 hf with ⟨hcs, _⟩ | ⟨a, len', cap', m, n, D, Pl, hcs, _, hl, hm, hmm, hx, hel⟩
  · simp [Value.cells] at hcs
    obtain ⟨rfl, rfl, rfl⟩ := hcs
    exact ⟨none, 0, 0, fun _ => default, rfl, by omega, ⟨fun _ h => absurd h (by omega), fun _ h => absurd h (by omega)⟩, .inl rfl⟩
  · simp [Value.cells] at hcs
    obtain ⟨rfl, rfl, rfl⟩ := hcs
    simp only [Prod.mk.injEq] at hx
    rw [hx.1] at hw
    have hs := hw.len Tryd.underlying35
    rw [bytes_ff] at hs
    simp only [List.length_map, List.length_range] at hs
    have hmc : m = cap := by simpa using hmm
    have hread : ∀ k, k < len → ∃ o : FV, W.cells? 0 (a.add (k * 2)) 2 = some [.int .i64 o.z, .slice o.a o.d.length o.c] ∧ o.Ok W ∧ ∃ ds d3, D k = .agg ds ∧ d3 ∈ ds ∧ o.d.length ≤ dlen d3 := by
      intro k hk
      have hwk : Wt Tryd.prog 25 (D k) := hw.elem Tryd.underlying35 (List.mem_map.2 ⟨k, List.mem_range.2 hk, rfl⟩)
      obtain ⟨cs', h1, h2⟩ := hel k (by omega)
      rw [cells_ff] at h1
      obtain ⟨o, rfl, ho⟩ := frame_read h2 hwk
      exact ⟨o, h1, ho⟩
    obtain ⟨F, hF⟩ := Deep.choose_lt (α := FV) hread
    refine ⟨some a, len, cap, F, rfl, by unfold reachBytes at hs; omega, ⟨fun k hk => ?_, fun k hk => (hF k hk).2.1⟩, .inr ⟨_, _, hx.1, by simp, fun k hk => ?_⟩⟩
    rotate_left
    · obtain ⟨ds, d3, e1, e2, e3⟩ := (hF k hk).2.2
      exact ⟨ds, d3, List.mem_map.2 ⟨k, List.mem_range.2 hk, e1⟩, e2, e3⟩
    obtain ⟨_, _, hc⟩ := World.cells?_some (hF k hk).1
    have h0 := hc 0 (by omega)
    have h1 := hc 1 (by omega)
    rw [add_add] at h0 h1
    obtain ⟨b, off, rfl⟩ := addr_eq (a := a) (by
      obtain ⟨_, _, hc0⟩ := World.cells?_some (hF 0 (by omega)).1
      have := spot_none (v := .int .i64 (F 0).z) (by simpa using hc0 0 (by omega))
      have e : (a.add 0).spot = a.spot := by unfold Addr.add; simp
      simpa [add_add, e] using this)
    rw [Addr.add_lit] at h0 h1
    exact ⟨b, off, rfl, by simpa using h0, by simpa using h1⟩
end
end Go.Proofs.YtkgfdcagninphaaDoor
