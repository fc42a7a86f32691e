/- The arguments of the record files' laws: a head. -/
import Derived.Test.YtibhbfmljibeaaaDoorOpArgs
namespace Go.Proofs.YtibhbfmljibeaaaDoor
open Go.ChangeShapes Go.WideShapes Go.ChangeAt Go.RowKit Go.Deep
section
variable {H : Type} {enc : TypeId × Value → H}
set_option maxRecDepth 100000 in
theorem cells_hdA : Tryd.prog.cellsOf 39 = 3 := by kernel_rfl
set_option maxRecDepth 100000 in
theorem headArg {W : World} {base : Nat} {v : Value} {d : DataW H} {p : List MemPlace} (hv : Value.okWide Tryd.prog W .any base 39 v) (h : DataW.Trod enc Tryd.prog W 0 (fun _ => true) true 39 v d p) (hw : Wt Tryd.prog 39 d) :
    ∃ (x y z : Int), v = .agg #[.int .i64 x, .int .i64 y, .int .i64 z] := by
  obtain ⟨cs, rfl, hs⟩ := okWide_struct Tryd.underlying39 hv
  obtain ⟨fuel, hf⟩ := h
  obtain ⟨_, ds, n, _, hsub⟩ := struct_subF Tryd.underlying39 hf hw
  rw [cells_hdA] at hs
  obtain ⟨cl⟩ := cs
  replace hs : cl.length = 3 := hs
  match cl, hs with
  | [v0, v1, v2], _ =>
    obtain ⟨d0, p0, h0, _⟩ := hsub 0 3 0 rfl
    obtain ⟨d1, p1, h1, _⟩ := hsub 1 3 1 rfl
    obtain ⟨d2, p2, h2, _⟩ := hsub 2 3 2 rfl
    rw [cells_fi] at h0 h1 h2
    obtain ⟨x, rfl, _⟩ := int_read (v := v0) Tryd.underlying3 h0
    obtain ⟨y, rfl, _⟩ := int_read (v := v1) Tryd.underlying3 h1
    obtain ⟨z, rfl, _⟩ := int_read (v := v2) Tryd.underlying3 h2
    exact ⟨x, y, z, rfl⟩
set_option maxRecDepth 100000 in
theorem cells_wkA : Tryd.prog.cellsOf 58 = 4 := by kernel_rfl
set_option maxRecDepth 100000 in
theorem walkArg {W : World} {base : Nat} {v : Value} {d : DataW H} {p : List MemPlace} (hv : Value.okWide Tryd.prog W .any base 58 v) (h : DataW.Trod enc Tryd.prog W 0 (fun _ => true) true 58 v d p) (hw : Wt Tryd.prog 58 d) :
    ∃ (x y z u : Int), v = .agg #[.int .i64 x, .int .i64 y, .int .i64 z, .int .i64 u] := by
  obtain ⟨cs, rfl, hs⟩ := okWide_struct Tryd.underlying58 hv
  obtain ⟨fuel, hf⟩ := h
  obtain ⟨_, ds, n, _, hsub⟩ := struct_subF Tryd.underlying58 hf hw
  rw [cells_wkA] at hs
  obtain ⟨cl⟩ := cs
  replace hs : cl.length = 4 := hs
  match cl, hs with
  | [v0, v1, v2, v3], _ =>
    obtain ⟨d0, p0, h0, _⟩ := hsub 0 3 0 rfl
    obtain ⟨d1, p1, h1, _⟩ := hsub 1 3 1 rfl
    obtain ⟨d2, p2, h2, _⟩ := hsub 2 3 2 rfl
    obtain ⟨d3, p3, h3, _⟩ := hsub 3 3 3 rfl
    rw [cells_fi] at h0 h1 h2 h3
    obtain ⟨x, rfl, _⟩ := int_read (v := v0) Tryd.underlying3 h0
    obtain ⟨y, rfl, _⟩ := int_read (v := v1) Tryd.underlying3 h1
    obtain ⟨z, rfl, _⟩ := int_read (v := v2) Tryd.underlying3 h2
    obtain ⟨u, rfl, _⟩ := int_read (v := v3) Tryd.underlying3 h3
    exact ⟨x, y, z, u, rfl⟩
end
end Go.Proofs.YtibhbfmljibeaaaDoor
