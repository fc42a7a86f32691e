/- The arguments of the records' laws: a Group, a RelTwo, a NodeTwo. -/
import Derived.Test.YtmekplamjlnhcaaStruct
import Derived.Test.YtmekplamjlnhcaaFresh
import Derived.Test.YtmekplamjlnhcaaRecA
namespace Go.Proofs.Ytmekplamjlnhcaa
open Go.ChangeShapes Go.WideShapes Go.ChangeAt Go.RowKit Go.Deep
section
variable {H : Type} {enc : TypeId × Value → H}
theorem bool_read {P : Program} {W : World} {t : TypeId} {v : Value} {d : DataW H} {p : List MemPlace} {fuel : Nat} (ht : P.underlying t = some .bool) (h : DataW.trod enc P W 0 (fun _ => true) true fuel t [v] = some (d, p)) :
    ∃ b, v = .bool b := by
  obtain ⟨b, h1, _⟩ := DataW.trod_bool ht h
  simp only [List.cons.injEq, and_true] at h1
  exact ⟨b, h1⟩
/-- a field of several cells -/
theorem struct_sub {P : Program} {W : World} {t : TypeId} {fs : Array Field} {cs : List Value} {d : DataW H} {p : List MemPlace} {fuel : Nat} (ht : P.underlying t = some (.struct fs))
    (h : DataW.trod enc P W 0 (fun _ => true) true fuel t cs = some (d, p)) (hw : Wt P t d) : cs.length = P.cellsOf t ∧ ∃ ds n, d = .agg ds ∧ ∀ (i u off : Nat), (fs[i]?).map (fun f => (f.type, f.offset)) = some (u, off) → ∃ d' p', DataW.trod enc P W 0 (fun _ => true) true n u ((cs.drop off).take (P.cellsOf u)) = some (d', p') ∧ Wt P u d' ∧ d' ∈ ds := by
  obtain ⟨xs, n, _, hx, hl, hlen, hf⟩ := DataW.trod_struct ht h
  simp only [Prod.mk.injEq] at hx
  rw [hx.1] at hw
  refine ⟨hl, _, n, hx.1, fun i u off hi => ?_⟩
  obtain ⟨f, hi2, e2⟩ := Option.map_eq_some_iff.1 hi
  simp only [Prod.mk.injEq] at e2
  obtain ⟨rfl, rfl⟩ := e2
  have hlt : i < fs.size := (Array.getElem?_eq_some_iff.1 hi2).1
  have e : xs[i]? = some (xs[i]'(by omega)) := List.getElem?_eq_getElem (by omega)
  have h1 := (hf i f hi2).trans e
  refine ⟨(xs[i]'(by omega)).1, (xs[i]'(by omega)).2, h1, hw.field ht hi2 ?_, ?_⟩
  · simp [e]
  · exact List.mem_map.2 ⟨_, List.getElem_mem _, rfl⟩
theorem cells_b : Try.prog.cellsOf 4 = 1 := by kernel_rfl
theorem cells_i : Try.prog.cellsOf 3 = 1 := by kernel_rfl
theorem cells_bs8 : Try.prog.cellsOf 25 = 1 := by kernel_rfl
theorem cells_u1 : Try.prog.cellsOf 5 = 1 := by kernel_rfl
theorem bytes_u1 : Try.prog.bytesOf 5 = 1 := by kernel_rfl
theorem cells_g : Try.prog.cellsOf 44 = 7 := by kernel_rfl
theorem cells_l : Try.prog.cellsOf 24 = 7 := by kernel_rfl
theorem cells_r : Try.prog.cellsOf 27 = 10 := by kernel_rfl
theorem groupArg {W : World} {base : Nat} {v : Value} {d : DataW H} {p : List MemPlace} (hv : Value.okWide Try.prog W .any base 44 v) (h : DataW.Trod enc Try.prog W 0 (fun _ => true) true 44 v d p) (hw : Wt Try.prog 44 d) :
    ∃ (b : Bool) (z1 z2 z3 z4 z5 z6 : Int), v = .agg #[.bool b, .int .i64 z1, .int .i64 z2, .int .i64 z3, .int .i64 z4, .int .i64 z5, .int .i64 z6] := by
  obtain ⟨cs, rfl, hs, ds, _, n, hf⟩ := struct_arg Try.underlying44 hv h hw
  rw [cells_g] at hs
  obtain ⟨cl⟩ := cs
  replace hs : cl.length = 7 := hs
  match cl, hs with
  | [v0, v1, v2, v3, v4, v5, v6], _ =>
    obtain ⟨d0, p0, h0, _⟩ := hf 0 4 0 rfl v0 rfl cells_b
    obtain ⟨d1, p1, h1, _⟩ := hf 1 3 1 rfl v1 rfl cells_i
    obtain ⟨d2, p2, h2, _⟩ := hf 2 3 2 rfl v2 rfl cells_i
    obtain ⟨d3, p3, h3, _⟩ := hf 3 3 3 rfl v3 rfl cells_i
    obtain ⟨d4, p4, h4, _⟩ := hf 4 3 4 rfl v4 rfl cells_i
    obtain ⟨d5, p5, h5, _⟩ := hf 5 3 5 rfl v5 rfl cells_i
    obtain ⟨d6, p6, h6, _⟩ := hf 6 3 6 rfl v6 rfl cells_i
    obtain ⟨b, rfl⟩ := bool_read Try.underlying4 h0
    obtain ⟨z1, rfl, _⟩ := int_read Try.underlying3 h1
    obtain ⟨z2, rfl, _⟩ := int_read Try.underlying3 h2
    obtain ⟨z3, rfl, _⟩ := int_read Try.underlying3 h3
    obtain ⟨z4, rfl, _⟩ := int_read Try.underlying3 h4
    obtain ⟨z5, rfl, _⟩ := int_read Try.underlying3 h5
    obtain ⟨z6, rfl, _⟩ := int_read Try.underlying3 h6
    exact ⟨b, z1, z2, z3, z4, z5, z6, rfl⟩
theorem relArg {W : World} {base : Nat} {v : Value} {d : DataW H} {p : List MemPlace} (hv : Value.okWide Try.prog W .any base 27 v) (h : DataW.Trod enc Try.prog W 0 (fun _ => true) true 27 v d p) (hw : Wt Try.prog 27 d) :
    ∃ (b : Bool) (z1 z2 z3 z4 z5 z6 z7 z8 : Int) (sa : Option Addr) (sc : Nat) (sl : List UInt8), v = .agg #[.bool b, .int .i64 z1, .int .i64 z2, .int .i64 z3, .int .i64 z4, .int .i64 z5, .int .i64 z6, .int .i64 z7, .int .i64 z8, .slice sa sl.length sc] ∧ sl.length ≤ 140737488351232 ∧ (sa = none → sc = 0) ∧ Bytes W sa sl := by
  obtain ⟨cs, rfl, hs⟩ := okWide_struct Try.underlying27 hv
  obtain ⟨fuel, hf⟩ := h
  obtain ⟨_, ds, n, _, hsub⟩ := struct_sub Try.underlying27 hf hw
  rw [cells_r] at hs
  obtain ⟨cl⟩ := cs
  replace hs : cl.length = 10 := hs
  match cl, hs with
  | [v0, v1, v2, v3, v4, v5, v6, v7, v8, v9], _ =>
    obtain ⟨dl, pl, hl, wl, _⟩ := hsub 0 24 0 rfl
    obtain ⟨d7, p7, h7, _⟩ := hsub 1 3 7 rfl
    obtain ⟨d8, p8, h8, _⟩ := hsub 2 3 8 rfl
    obtain ⟨d9, p9, h9, w9, _⟩ := hsub 3 25 9 rfl
    rw [cells_l] at hl
    rw [cells_i] at h7 h8
    rw [cells_bs8] at h9
    obtain ⟨_, ds2, _, m, hg⟩ := struct_read Try.underlying24 hl wl
    obtain ⟨d0, p0, h0, _⟩ := hg 0 4 0 rfl v0 rfl cells_b
    obtain ⟨d1, p1, h1, _⟩ := hg 1 3 1 rfl v1 rfl cells_i
    obtain ⟨d2, p2, h2, _⟩ := hg 2 3 2 rfl v2 rfl cells_i
    obtain ⟨d3, p3, h3, _⟩ := hg 3 3 3 rfl v3 rfl cells_i
    obtain ⟨d4, p4, h4, _⟩ := hg 4 3 4 rfl v4 rfl cells_i
    obtain ⟨d5, p5, h5, _⟩ := hg 5 3 5 rfl v5 rfl cells_i
    obtain ⟨d6, p6, h6, _⟩ := hg 6 3 6 rfl v6 rfl cells_i
    obtain ⟨b, rfl⟩ := bool_read Try.underlying4 h0
    obtain ⟨z1, rfl, _⟩ := int_read Try.underlying3 h1
    obtain ⟨z2, rfl, _⟩ := int_read Try.underlying3 h2
    obtain ⟨z3, rfl, _⟩ := int_read Try.underlying3 h3
    obtain ⟨z4, rfl, _⟩ := int_read Try.underlying3 h4
    obtain ⟨z5, rfl, _⟩ := int_read Try.underlying3 h5
    obtain ⟨z6, rfl, _⟩ := int_read Try.underlying3 h6
    obtain ⟨z7, rfl, _⟩ := int_read (v := v7) Try.underlying3 h7
    obtain ⟨z8, rfl, _⟩ := int_read (v := v8) Try.underlying3 h8
    obtain ⟨sa, sc, sl, rfl, b1, b2, b3, _⟩ := bytes_read (v := v9) Try.underlying25 Try.underlying5 cells_u1 bytes_u1 h9 w9
    exact ⟨b, z1, z2, z3, z4, z5, z6, z7, z8, sa, sc, sl, rfl, b1, b2, b3⟩
end
end Go.Proofs.Ytmekplamjlnhcaa
