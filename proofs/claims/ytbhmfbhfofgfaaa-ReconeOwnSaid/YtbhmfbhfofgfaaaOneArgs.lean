/- The arguments of the laws of version 1's records: a RelOne, a NodeOne, a PropOne. -/
import Derived.Test.YtbhmfbhfofgfaaaRecArgN
namespace Go.Proofs.Ytbhmfbhfofgfaaa
open Go.ChangeShapes Go.WideShapes Go.ChangeAt Go.RowKit Go.Deep
section
variable {H : Type} {enc : TypeId × Value → H}
theorem cells_r1 : Try.prog.cellsOf 25 = 9 := by kernel_rfl
theorem cells_n1 : Try.prog.cellsOf 43 = 3 := by kernel_rfl
theorem cells_p1 : Try.prog.cellsOf 53 = 6 := by kernel_rfl
theorem cells_i64 : Try.prog.cellsOf 2 = 1 := by kernel_rfl
set_option maxRecDepth 100000 in
theorem relOneArg {W : World} {base : Nat} {v : Value} {d : DataW H} {p : List MemPlace} (hv : Value.okWide Try.prog W .any base 25 v) (h : DataW.Trod enc Try.prog W 0 (fun _ => true) true 25 v d p) (hw : Wt Try.prog 25 d) :
    ∃ (b : Bool) (z1 z2 z3 z4 z5 z6 z7 z8 : Int), v = .agg #[.bool b, .int .i64 z1, .int .i64 z2, .int .i64 z3, .int .i64 z4, .int .i64 z5, .int .i64 z6, .int .i64 z7, .int .i64 z8] := by
  obtain ⟨cs, rfl, hs⟩ := okWide_struct Try.underlying25 hv
  obtain ⟨fuel, hf⟩ := h
  obtain ⟨_, ds, n, _, hsub⟩ := struct_sub Try.underlying25 hf hw
  rw [cells_r1] at hs
  obtain ⟨cl⟩ := cs
  replace hs : cl.length = 9 := hs
  match cl, hs with
  | [v0, v1, v2, v3, v4, v5, v6, v7, v8], _ =>
    obtain ⟨dl, pl, hl, wl, _⟩ := hsub 0 23 0 rfl
    obtain ⟨d7, p7, h7, _⟩ := hsub 1 3 7 rfl
    obtain ⟨d8, p8, h8, _⟩ := hsub 2 3 8 rfl
    rw [cells_l] at hl
    rw [cells_i] at h7 h8
    obtain ⟨_, ds2, _, m, hg⟩ := struct_read Try.underlying23 hl wl
    obtain ⟨d0, p0, h0, _⟩ := hg 0 4 0 rfl v0 rfl cells_b
    obtain ⟨d1, p1, h1, _⟩ := hg 1 3 1 rfl v1 rfl cells_i
    obtain ⟨d2, p2, h2, _⟩ := hg 2 3 2 rfl v2 rfl cells_i
    obtain ⟨d3, p3, h3, _⟩ := hg 3 3 3 rfl v3 rfl cells_i
    obtain ⟨d4, p4, h4, _⟩ := hg 4 3 4 rfl v4 rfl cells_i
    obtain ⟨d5, p5, h5, _⟩ := hg 5 3 5 rfl v5 rfl cells_i
    obtain ⟨d6, p6, h6, _⟩ := hg 6 3 6 rfl v6 rfl cells_i
    obtain ⟨b, rfl⟩ := bool_read Try.underlying4 h0
    obtain ⟨z1, rfl, _⟩ := int_read (v := v1) Try.underlying3 h1
    obtain ⟨z2, rfl, _⟩ := int_read (v := v2) Try.underlying3 h2
    obtain ⟨z3, rfl, _⟩ := int_read (v := v3) Try.underlying3 h3
    obtain ⟨z4, rfl, _⟩ := int_read (v := v4) Try.underlying3 h4
    obtain ⟨z5, rfl, _⟩ := int_read (v := v5) Try.underlying3 h5
    obtain ⟨z6, rfl, _⟩ := int_read (v := v6) Try.underlying3 h6
    obtain ⟨z7, rfl, _⟩ := int_read (v := v7) Try.underlying3 h7
    obtain ⟨z8, rfl, _⟩ := int_read (v := v8) Try.underlying3 h8
    exact ⟨b, z1, z2, z3, z4, z5, z6, z7, z8, rfl⟩
set_option maxRecDepth 100000 in
theorem nodeOneArg {W : World} {base : Nat} {v : Value} {d : DataW H} {p : List MemPlace} (hv : Value.okWide Try.prog W .any base 43 v) (h : DataW.Trod enc Try.prog W 0 (fun _ => true) true 43 v d p) (hw : Wt Try.prog 43 d) :
    ∃ (z1 z2 : Int) (la : Option Addr) (lc : Nat) (labs : List Int), v = .agg #[.int .i64 z1, .int .i64 z2, .slice la labs.length lc] ∧ labs.length ≤ 17592186044000 ∧ (la = none → lc = 0) ∧ Ints W la labs := by
  obtain ⟨cs, rfl, hs⟩ := okWide_struct Try.underlying43 hv
  obtain ⟨fuel, hf⟩ := h
  obtain ⟨_, ds, n, _, hsub⟩ := struct_sub Try.underlying43 hf hw
  rw [cells_n1] at hs
  obtain ⟨cl⟩ := cs
  replace hs : cl.length = 3 := hs
  match cl, hs with
  | [v0, v1, v2], _ =>
    obtain ⟨d0, p0, h0, _⟩ := hsub 0 3 0 rfl
    obtain ⟨d1, p1, h1, _⟩ := hsub 1 3 1 rfl
    obtain ⟨d2, p2, h2, w2, _⟩ := hsub 2 41 2 rfl
    rw [cells_i] at h0 h1
    rw [cells_si] at h2
    obtain ⟨z1, rfl, _⟩ := int_read (v := v0) Try.underlying3 h0
    obtain ⟨z2, rfl, _⟩ := int_read (v := v1) Try.underlying3 h1
    obtain ⟨la, lc, labs, rfl, e1, e2, e3⟩ := ints_read (v := v2) Try.underlying41 Try.underlying3 cells_i bytes_i8 h2 w2
    exact ⟨z1, z2, la, lc, labs, rfl, e1, e2, e3⟩
set_option maxRecDepth 100000 in
theorem propOneArg {W : World} {base : Nat} {v : Value} {d : DataW H} {p : List MemPlace} (hv : Value.okWide Try.prog W .any base 53 v) (h : DataW.Trod enc Try.prog W 0 (fun _ => true) true 53 v d p) (hw : Wt Try.prog 53 d) :
    ∃ (z0 z1 z2 z3 z4 z5 : Int), v = .agg #[.int .i64 z0, .int .i64 z1, .int .i64 z2, .int .i64 z3, .int .i64 z4, .int .i64 z5] ∧ (-9223372036854775808 ≤ z2 ∧ z2 ≤ 9223372036854775807) := by
  obtain ⟨cs, rfl, hs⟩ := okWide_struct Try.underlying53 hv
  obtain ⟨fuel, hf⟩ := h
  obtain ⟨_, ds, n, _, hsub⟩ := struct_sub Try.underlying53 hf hw
  rw [cells_p1] at hs
  obtain ⟨cl⟩ := cs
  replace hs : cl.length = 6 := hs
  match cl, hs with
  | [v0, v1, v2, v3, v4, v5], _ =>
    obtain ⟨d0, p0, h0, _⟩ := hsub 0 3 0 rfl
    obtain ⟨d1, p1, h1, _⟩ := hsub 1 3 1 rfl
    obtain ⟨d2, p2, h2, _⟩ := hsub 2 2 2 rfl
    obtain ⟨d3, p3, h3, _⟩ := hsub 3 3 3 rfl
    obtain ⟨d4, p4, h4, _⟩ := hsub 4 3 4 rfl
    obtain ⟨d5, p5, h5, _⟩ := hsub 5 3 5 rfl
    rw [cells_i] at h0 h1 h3 h4 h5
    rw [cells_i64] at h2
    obtain ⟨z0, rfl, b0⟩ := int_read (v := v0) Try.underlying3 h0
    obtain ⟨z1, rfl, b1⟩ := int_read (v := v1) Try.underlying3 h1
    obtain ⟨z2, rfl, b2⟩ := int_read (v := v2) Try.underlying2 h2
    obtain ⟨z3, rfl, b3⟩ := int_read (v := v3) Try.underlying3 h3
    obtain ⟨z4, rfl, b4⟩ := int_read (v := v4) Try.underlying3 h4
    obtain ⟨z5, rfl, b5⟩ := int_read (v := v5) Try.underlying3 h5
    exact ⟨z0, z1, z2, z3, z4, z5, rfl, bd_i64 b2⟩
end
end Go.Proofs.Ytbhmfbhfofgfaaa
