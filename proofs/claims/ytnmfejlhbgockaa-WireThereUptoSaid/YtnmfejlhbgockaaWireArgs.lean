/- The arguments of wire's laws: a SetArg, a list of Ops. -/
import Derived.Test.YtnmfejlhbgockaaStruct
import Derived.Test.YtnmfejlhbgockaaProg
namespace Go.Proofs.Ytnmfejlhbgockaa
open Go.ChangeShapes Go.WideShapes Go.ChangeAt Go.RowKit Go.Deep
section
variable {H : Type} {enc : TypeId × Value → H}
theorem cells_u8 : Try.prog.cellsOf 5 = 1 := by kernel_rfl
theorem bytes_u8 : Try.prog.bytesOf 5 = 1 := by kernel_rfl
theorem cells_int : Try.prog.cellsOf 3 = 1 := by kernel_rfl
theorem cells_u64 : Try.prog.cellsOf 24 = 1 := by kernel_rfl
theorem cells_bs : Try.prog.cellsOf 22 = 1 := by kernel_rfl
theorem cells_op : Try.prog.cellsOf 50 = 4 := by kernel_rfl
theorem bytes_op : Try.prog.bytesOf 50 = 48 := by kernel_rfl
theorem cells_sa : Try.prog.cellsOf 33 = 4 := by kernel_rfl
theorem setArg {W : World} {base : Nat} {v : Value} {d : DataW H} {p : List MemPlace} (hv : Value.okWide Try.prog W .any base 33 v) (h : DataW.Trod enc Try.prog W 0 (fun _ => true) true 33 v d p) (hw : Wt Try.prog 33 d) :
    ∃ a c l q z n, v = .agg #[.slice a (List.length l) c, .int .i64 q, .int .i64 z, .int .u64 (U n)] ∧ List.length l ≤ 140737488351232 ∧ (a = none → c = 0) ∧ Bytes W a l ∧ List.length l ≤ c ∧ q ≤ 9223372036854775807 ∧ n < 18446744073709551616 := by
  obtain ⟨cs, rfl, hs, ds, _, n, hf⟩ := struct_arg Try.underlying33 hv h hw
  rw [cells_sa] at hs
  obtain ⟨cl⟩ := cs
  replace hs : cl.length = 4 := hs
  match cl, hs with
  | [v0, v1, v2, v3], _ =>
    obtain ⟨d0, p0, h0, w0, _⟩ := hf 0 22 0 rfl v0 rfl cells_bs
    obtain ⟨d1, p1, h1, _⟩ := hf 1 3 1 rfl v1 rfl cells_int
    obtain ⟨d2, p2, h2, _⟩ := hf 2 3 2 rfl v2 rfl cells_int
    obtain ⟨d3, p3, h3, _⟩ := hf 3 24 3 rfl v3 rfl cells_u64
    obtain ⟨a, c, l, rfl, b1, b2, b3, _, b5⟩ := bytes_read Try.underlying22 Try.underlying5 cells_u8 bytes_u8 h0 w0
    obtain ⟨z1, rfl, y1⟩ := int_read Try.underlying3 h1
    obtain ⟨z2, rfl, y2⟩ := int_read Try.underlying3 h2
    obtain ⟨m, rfl, hm⟩ := u64_read Try.underlying24 h3
    exact ⟨a, c, l, z1, z2, m, rfl, b1, b2, b3, b5, (bd_i64 y1).2, hm⟩
/-- one call of a script -/
structure OpV where
  kind : Int
  width : Int
  num : Nat
  addr : Option Addr
  cap : Nat
  data : List UInt8
instance : Inhabited OpV := ⟨⟨0, 0, 0, none, 0, []⟩⟩
structure OpV.Ok (w : World) (o : OpV) : Prop where
  kind : -9223372036854775808 ≤ o.kind ∧ o.kind ≤ 9223372036854775807
  width : -9223372036854775808 ≤ o.width ∧ o.width ≤ 9223372036854775807
  num : o.num < 18446744073709551616
  len : o.data.length ≤ 140737488351232
  none : o.addr = none → o.cap = 0
  bytes : Bytes w o.addr o.data
  cap : o.data.length ≤ o.cap
theorem OpV.Ok.keep {w w' : World} {o : OpV} (h : o.Ok w) (hf : Fr [] w w') : o.Ok w' := ⟨h.kind, h.width, h.num, h.len, h.none, h.bytes.keep hf, h.cap⟩
theorem op_read {W : World} {cs : List Value} {d : DataW H} {p : List MemPlace} {fuel : Nat} (h : DataW.trod enc Try.prog W 0 (fun _ => true) true fuel 50 cs = some (d, p)) (hw : Wt Try.prog 50 d) :
    ∃ o : OpV, cs = [.int .i64 o.kind, .int .i64 o.width, .int .u64 (U o.num), .slice o.addr o.data.length o.cap] ∧ o.Ok W ∧ ∃ ds d3, d = .agg ds ∧ d3 ∈ ds ∧ o.data.length ≤ dlen d3 := by
  obtain ⟨hs, ds, hd, n, hf⟩ := struct_read Try.underlying50 h hw
  rw [cells_op] at hs
  match cs, hs with
  | [v0, v1, v2, v3], _ =>
    obtain ⟨d0, p0, h0, _⟩ := hf 0 3 0 rfl v0 rfl cells_int
    obtain ⟨d1, p1, h1, _⟩ := hf 1 3 1 rfl v1 rfl cells_int
    obtain ⟨d2, p2, h2, _⟩ := hf 2 24 2 rfl v2 rfl cells_u64
    obtain ⟨d3, p3, h3, w3, m3⟩ := hf 3 22 3 rfl v3 rfl cells_bs
    obtain ⟨z0, rfl, y0⟩ := int_read Try.underlying3 h0
    obtain ⟨z1, rfl, y1⟩ := int_read Try.underlying3 h1
    obtain ⟨m, rfl, hm⟩ := u64_read Try.underlying24 h2
    obtain ⟨a, c, l, rfl, b1, b2, b3, b4, b5⟩ := bytes_read Try.underlying22 Try.underlying5 cells_u8 bytes_u8 h3 w3
    exact ⟨⟨z0, z1, m, a, c, l⟩, rfl, ⟨bd_i64 y0, bd_i64 y1, hm, b1, b2, b3, b5⟩, ds, d3, hd, m3, b4⟩
/-- a script in memory -/
structure Ops (w : World) (a : Option Addr) (n : Nat) (F : Nat → OpV) : Prop where
  cell : ∀ k, k < n → ∃ b off, a = some ⟨b, off, none⟩ ∧ w.cell? ⟨b, off + k * 4, none⟩ = some (.int .i64 (F k).kind) ∧ w.cell? ⟨b, off + (k * 4 + 1), none⟩ = some (.int .i64 (F k).width) ∧
    w.cell? ⟨b, off + (k * 4 + 2), none⟩ = some (.int .u64 (U (F k).num)) ∧ w.cell? ⟨b, off + (k * 4 + 3), none⟩ = some (.slice (F k).addr (F k).data.length (F k).cap)
  ok : ∀ k, k < n → (F k).Ok w
theorem Ops.keep {w w' : World} {a : Option Addr} {n : Nat} {F : Nat → OpV} (h : Ops w a n F) (hf : Fr [] w w') : Ops w' a n F := by
  refine ⟨fun k hk => ?_, fun k hk => (h.ok k hk).keep hf⟩
  obtain ⟨b, off, e, h0, h1, h2, h3⟩ := h.cell k hk
  exact ⟨b, off, e, hf.cell h0 (by simp), hf.cell h1 (by simp), hf.cell h2 (by simp), hf.cell h3 (by simp)⟩
/-- how much a script holds, by its datum -/
def Small (d : DataW H) (n : Nat) (F : Nat → OpV) : Prop :=
  n = 0 ∨ ∃ elems spare, d = .slice elems spare ∧ n ≤ elems.length ∧ ∀ k, k < n → ∃ ds d3, DataW.agg ds ∈ elems ∧ d3 ∈ ds ∧ (F k).data.length ≤ dlen d3
theorem script_arg {W : World} {base : Nat} {v : Value} {d : DataW H} {p : List MemPlace} (hv : Value.okWide Try.prog W .any base 48 v) (h : DataW.Trod enc Try.prog W 0 (fun _ => true) true 48 v d p) (hw : Wt Try.prog 48 d) :
    ∃ a n cap F, v = .slice a n cap ∧ n ≤ 2932031007317 ∧ Ops W a n F ∧ Small d n F := by
  obtain ⟨a0, len, cap, rfl⟩ := okWide_slice Try.underlying48 hv
  obtain ⟨fuel, hf⟩ := h
  rcases open_slice Try.underlying48 hf with ⟨hcs, _⟩ | ⟨a, len', cap', m, n, D, Pl, hcs, _, hl, hm, hmm, hx, hel⟩
  · simp [Value.cells] at hcs
    obtain ⟨rfl, rfl, rfl⟩ := hcs
    exact ⟨none, 0, 0, fun _ => default, rfl, by omega, ⟨fun _ h => absurd h (by omega), fun _ h => absurd h (by omega)⟩, .inl rfl⟩
  · simp [Value.cells] at hcs
    obtain ⟨rfl, rfl, rfl⟩ := hcs
    simp only [Prod.mk.injEq] at hx
    rw [hx.1] at hw
    have hs := hw.len Try.underlying48
    rw [bytes_op] at hs
    simp only [List.length_map, List.length_range] at hs
    have hmc : m = cap := by simpa using hmm
    have hread : ∀ k, k < len → ∃ o : OpV, W.cells? 0 (a.add (k * 4)) 4 = some [.int .i64 o.kind, .int .i64 o.width, .int .u64 (U o.num), .slice o.addr o.data.length o.cap] ∧ o.Ok W ∧ ∃ ds d3, D k = .agg ds ∧ d3 ∈ ds ∧ o.data.length ≤ dlen d3 := by
      intro k hk
      have hwk : Wt Try.prog 50 (D k) := hw.elem Try.underlying48 (List.mem_map.2 ⟨k, List.mem_range.2 hk, rfl⟩)
      obtain ⟨cs', h1, h2⟩ := hel k (by omega)
      rw [cells_op] at h1
      obtain ⟨o, rfl, ho⟩ := op_read h2 hwk
      exact ⟨o, h1, ho⟩
    obtain ⟨F, hF⟩ := Deep.choose_lt (α := OpV) hread
    refine ⟨some a, len, cap, F, rfl, by unfold reachBytes at hs; omega, ⟨fun k hk => ?_, fun k hk => (hF k hk).2.1⟩, .inr ⟨_, _, hx.1, by simp, fun k hk => ?_⟩⟩
    rotate_left
    · obtain ⟨ds, d3, e1, e2, e3⟩ := (hF k hk).2.2
      exact ⟨ds, d3, List.mem_map.2 ⟨k, List.mem_range.2 hk, e1⟩, e2, e3⟩
    obtain ⟨_, _, hc⟩ := World.cells?_some (hF k hk).1
    have h0 := hc 0 (by omega)
    have h1 := hc 1 (by omega)
    have h2 := hc 2 (by omega)
    have h3 := hc 3 (by omega)
    rw [add_add] at h0 h1 h2 h3
    obtain ⟨b, off, rfl⟩ := addr_eq (a := a) (by
      obtain ⟨_, _, hc0⟩ := World.cells?_some (hF 0 (by omega)).1
      have := spot_none (v := .int .i64 (F 0).kind) (by simpa using hc0 0 (by omega))
      have e : (a.add 0).spot = a.spot := by unfold Addr.add; simp
      simpa [add_add, e] using this)
    rw [Addr.add_lit] at h0 h1 h2 h3
    exact ⟨b, off, rfl, by simpa using h0, by simpa using h1, by simpa using h2, by simpa using h3⟩
end
end Go.Proofs.Ytnmfejlhbgockaa
