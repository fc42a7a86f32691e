/- The arguments of the laws: a script of calls, each two numbers and a list of bytes. -/
import Derived.Test.YtibhbfmljibeaaaDoorFrArgs
import Derived.Test.YtibhbfmljibeaaaDoorBulk
import Derived.Deep.DeepHandedRow
namespace Go.Proofs.YtibhbfmljibeaaaDoor
open Go.ChangeShapes Go.WideShapes Go.ChangeAt Go.RowKit Go.Deep
/-- a call that is handed in -/
structure OpW where
  kd : Int
  id : Int
  a : Option Addr
  c : Nat
  d : List UInt8
instance : Inhabited OpW := ⟨⟨0, 0, none, 0, []⟩⟩
structure OpW.Ok (w : World) (o : OpW) : Prop where
  kd : -9223372036854775808 ≤ o.kd ∧ o.kd ≤ 9223372036854775807
  id : -9223372036854775808 ≤ o.id ∧ o.id ≤ 9223372036854775807
  len : o.d.length ≤ 140737488351232
  none : o.a = none → o.c = 0
  bytes : Bytes w o.a o.d
theorem OpW.Ok.keep {w w' : World} {o : OpW} (h : o.Ok w) (hf : Fr [] w w') : o.Ok w' := ⟨h.kd, h.id, h.len, h.none, h.bytes.keep hf⟩
/-- a script in memory -/
structure OpsA (w : World) (a : Option Addr) (n : Nat) (F : Nat → OpW) : Prop where
  cell : ∀ k, k < n → ∃ b off, a = some ⟨b, off, none⟩ ∧ w.cell? ⟨b, off + k * 3, none⟩ = some (.int .i64 (F k).kd) ∧ w.cell? ⟨b, off + k * 3 + 1, none⟩ = some (.int .i64 (F k).id) ∧ w.cell? ⟨b, off + k * 3 + 2, none⟩ = some (.slice (F k).a (F k).d.length (F k).c)
  ok : ∀ k, k < n → (F k).Ok w
theorem OpsA.keep {w w' : World} {a : Option Addr} {n : Nat} {F : Nat → OpW} (h : OpsA w a n F) (hf : Fr [] w w') : OpsA w' a n F := by
  refine ⟨fun k hk => ?_, fun k hk => (h.ok k hk).keep hf⟩
  obtain ⟨b, off, e, h0, h1, h2⟩ := h.cell k hk
  exact ⟨b, off, e, hf.cell h0 (by simp), hf.cell h1 (by simp), hf.cell h2 (by simp)⟩
section
variable {H : Type} {enc : TypeId × Value → H}
set_option maxRecDepth 100000 in
theorem cells_opw : Tryd.prog.cellsOf 43 = 3 := by kernel_rfl
set_option maxRecDepth 100000 in
theorem bytes_opw : Tryd.prog.bytesOf 43 = 40 := by kernel_rfl
set_option maxRecDepth 100000 in
theorem opw_read {W : World} {cs : List Value} {d : DataW H} {p : List MemPlace} {fuel : Nat} (h : DataW.trod enc Tryd.prog W 0 (fun _ => true) true fuel 43 cs = some (d, p)) (hw : Wt Tryd.prog 43 d) :
    ∃ o : OpW, cs = [.int .i64 o.kd, .int .i64 o.id, .slice o.a o.d.length o.c] ∧ o.Ok W ∧ ∃ ds d3, d = .agg ds ∧ d3 ∈ ds ∧ o.d.length ≤ dlen d3 := by
  obtain ⟨hs, ds, n, hd, hsub⟩ := struct_subF Tryd.underlying43 h hw
  rw [cells_opw] at hs
  match cs, hs with
  | [v0, v1, v2], _ =>
    obtain ⟨d0, p0, h0, _⟩ := hsub 0 3 0 rfl
    obtain ⟨d1, p1, h1, _⟩ := hsub 1 3 1 rfl
    obtain ⟨d2, p2, h2, w2, m2⟩ := hsub 2 23 2 rfl
    rw [cells_fi] at h0 h1
    rw [cells_fb] at h2
    obtain ⟨z0, rfl, y0⟩ := int_read (v := v0) Tryd.underlying3 h0
    obtain ⟨z1, rfl, y1⟩ := int_read (v := v1) Tryd.underlying3 h1
    obtain ⟨a, c, l, rfl, b1, b2, b3, b4, _⟩ := bytes_read (v := v2) Tryd.underlying23 Tryd.underlying5 cells_fu bytes_fu h2 w2
    exact ⟨⟨z0, z1, a, c, l⟩, rfl, ⟨bd_i64 y0, bd_i64 y1, b1, b2, b3⟩, ds, d2, hd, m2, b4⟩
/-- how much a script holds, by its datum -/
def SmallW (d : DataW H) (n : Nat) (F : Nat → OpW) : Prop :=
  n = 0 ∨ ∃ elems spare, d = .slice elems spare ∧ n ≤ elems.length ∧ ∀ k, k < n → ∃ ds d3, DataW.agg ds ∈ elems ∧ d3 ∈ ds ∧ (F k).d.length ≤ dlen d3
set_option maxRecDepth 100000 in
theorem opsArg {W : World} {base : Nat} {v : Value} {d : DataW H} {p : List MemPlace} (hv : Value.okWide Tryd.prog W .any base 40 v) (h : DataW.Trod enc Tryd.prog W 0 (fun _ => true) true 40 v d p) (hw : Wt Tryd.prog 40 d) :
    ∃ a n cap F, v = .slice a n cap ∧ n ≤ 3518437208883 ∧ OpsA W a n F ∧ SmallW d n F := by
  obtain ⟨a0, len, cap, rfl⟩ := okWide_slice Tryd.underlying40 hv
  obtain ⟨fuel, hf⟩ := h
  rcases open_slice Tryd.underlying40 hf with ⟨hcs, _⟩ | ⟨a, len', cap', m, n, D, Pl, hcs, _, hl, hm, hmm, hx, hel⟩
  · simp [Value.cells] at hcs
    obtain ⟨rfl, rfl, rfl⟩ := hcs
    exact ⟨none, 0, 0, fun _ => default, rfl, by omega, ⟨fun _ h => absurd h (by omega), fun _ h => absurd h (by omega)⟩, .inl rfl⟩
  · simp [Value.cells] at hcs
    obtain ⟨rfl, rfl, rfl⟩ := hcs
    simp only [Prod.mk.injEq] at hx
    rw [hx.1] at hw
    have hs := hw.len Tryd.underlying40
    rw [bytes_opw] at hs
    simp only [List.length_map, List.length_range] at hs
    have hmc : m = cap := by simpa using hmm
    have hread : ∀ k, k < len → ∃ o : OpW, W.cells? 0 (a.add (k * 3)) 3 = some [.int .i64 o.kd, .int .i64 o.id, .slice o.a o.d.length o.c] ∧ o.Ok W ∧ ∃ ds d3, D k = .agg ds ∧ d3 ∈ ds ∧ o.d.length ≤ dlen d3 := by
      intro k hk
      have hwk : Wt Tryd.prog 43 (D k) := hw.elem Tryd.underlying40 (List.mem_map.2 ⟨k, List.mem_range.2 hk, rfl⟩)
      obtain ⟨cs', h1, h2⟩ := hel k (by omega)
      rw [cells_opw] at h1
      obtain ⟨o, rfl, ho⟩ := opw_read h2 hwk
      exact ⟨o, h1, ho⟩
    obtain ⟨F, hF⟩ := Deep.choose_lt (α := OpW) hread
    refine ⟨some a, len, cap, F, rfl, by unfold reachBytes at hs; omega, ⟨fun k hk => ?_, fun k hk => (hF k hk).2.1⟩, .inr ⟨_, _, hx.1, by simp, fun k hk => ?_⟩⟩
    rotate_left
    · obtain ⟨ds, d3, e1, e2, e3⟩ := (hF k hk).2.2
      exact ⟨ds, d3, List.mem_map.2 ⟨k, List.mem_range.2 hk, e1⟩, e2, e3⟩
    obtain ⟨_, _, hc⟩ := World.cells?_some (hF k hk).1
    have h0 := hc 0 (by omega)
    have h1 := hc 1 (by omega)
    have h2 := hc 2 (by omega)
    rw [add_add] at h0 h1 h2
    obtain ⟨b, off, rfl⟩ := addr_eq (a := a) (by
      obtain ⟨_, _, hc0⟩ := World.cells?_some (hF 0 (by omega)).1
      have := spot_none (v := .int .i64 (F 0).kd) (by simpa using hc0 0 (by omega))
      have e : (a.add 0).spot = a.spot := by unfold Addr.add; simp
      simpa [add_add, e] using this)
    rw [Addr.add_lit] at h0 h1 h2
    exact ⟨b, off, rfl, by simpa using h0, by simpa [Nat.add_assoc] using h1, by simpa [Nat.add_assoc] using h2⟩
end
theorem small_boundW {H : Type} {l : List (DataW H)} (hk : Rows.uptoSmall H l = true) {d : DataW H} (hd : d ∈ l) {n : Nat} {F : Nat → OpW} (hs : SmallW d n F) : n ≤ 1048576 ∧ ∀ k, k < n → (F k).d.length ≤ 1048576 := by
  have h1 := bulk_bound hk
  have h2 := bulk_part hd
  rcases hs with rfl | ⟨elems, spare, rfl, hn, hF⟩
  · exact ⟨by omega, fun k h => absurd h (by omega)⟩
  · have h3 := bulk_len elems
    simp only [Rows.uptoBulk] at h2
    refine ⟨by omega, fun k hlt => ?_⟩
    obtain ⟨ds, d3, hm, hm2, hle⟩ := hF k hlt
    have h4 := bulk_part hm
    have h5 := bulk_part hm2
    have h6 := bulk_dlen d3
    simp only [Rows.uptoBulk] at h4
    omega
end Go.Proofs.YtibhbfmljibeaaaDoor
