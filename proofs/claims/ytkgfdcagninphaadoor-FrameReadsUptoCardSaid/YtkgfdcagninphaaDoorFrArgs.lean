/- The arguments of the frames' laws: a Frame. -/
import Derived.Test.YtkgfdcagninphaaDoorStruct
import Derived.Test.YtkgfdcagninphaaDoorFresh
import Derived.Test.YtkgfdcagninphaaDoorRecA
namespace Go.Proofs.YtkgfdcagninphaaDoor
open Go.ChangeShapes Go.WideShapes Go.ChangeAt Go.RowKit Go.Deep
section
variable {H : Type} {enc : TypeId × Value → H}
theorem struct_subF {P : Program} {W : World} {t : TypeId} {fs : Array Field} {cs : List Value} {d : DataW H} {p : List MemPlace} {fuel : Nat} (ht : P.underlying t = some (.struct fs))
    (h : DataW.trod enc P W 0 (fun _ => true) true fuel t cs = some (d, p)) (hw : Wt P t d) : cs.length = P.cellsOf t ∧ ∃ ds n, d = .agg ds ∧ ∀ (i u off : Nat), (fs[i]?).map (fun f => (f.type, f.offset)) = some (u, off) → ∃ d' p', DataW.trod enc P W 0 (fun _ => true) true n u ((cs.drop off).take (P.cellsOf u)) = some (d', p') ∧ Wt P u d' ∧ d' ∈ ds := by
  obtain ⟨xs, n, _, hx, hl, hlen, hf⟩ := DataW.trod_struct ht h
  simp only [Prod.mk.injEq] at hx
  rw [hx.1] at hw
  refine ⟨hl, _, n, hx.1, fun i u off hi => ?_⟩
  obtain ⟨f, hi2, e2⟩ := Option.map_eq_some_iff.1 hi
  simp only [Prod.mk.injEq] at e2
  obtain ⟨rfl, rfl⟩ := e2
  have hlt : i < fs.size := (Array.getElem?_eq_some_iff.1 hi2).1
  have e : xs[i]? = some (xs[i]'(by omega)) := List.getElem?_eq_getElem (by omega)
  have h1 := (hf i f hi2).trans e
  refine ⟨(xs[i]'(by omega)).1, (xs[i]'(by omega)).2, h1, hw.field ht hi2 ?_, ?_⟩
  · simp [e]
  · exact List.mem_map.2 ⟨_, List.getElem_mem _, rfl⟩
theorem cells_fi : Tryd.prog.cellsOf 3 = 1 := by kernel_rfl
theorem cells_fb : Tryd.prog.cellsOf 23 = 1 := by kernel_rfl
theorem cells_fu : Tryd.prog.cellsOf 5 = 1 := by kernel_rfl
theorem bytes_fu : Tryd.prog.bytesOf 5 = 1 := by kernel_rfl
theorem cells_ff : Tryd.prog.cellsOf 25 = 2 := by kernel_rfl
theorem frameArg {W : World} {base : Nat} {v : Value} {d : DataW H} {p : List MemPlace} (hv : Value.okWide Tryd.prog W .any base 25 v) (h : DataW.Trod enc Tryd.prog W 0 (fun _ => true) true 25 v d p) (hw : Wt Tryd.prog 25 d) :
    ∃ (z : Int) (sa : Option Addr) (sc : Nat) (sl : List UInt8), v = .agg #[.int .i64 z, .slice sa sl.length sc] ∧ sl.length ≤ 140737488351232 ∧ (sa = none → sc = 0) ∧ Bytes W sa sl := by
  obtain ⟨cs, rfl, hs⟩ := okWide_struct Tryd.underlying25 hv
  obtain ⟨fuel, hf⟩ := h
  obtain ⟨_, ds, n, _, hsub⟩ := struct_subF Tryd.underlying25 hf hw
  rw [cells_ff] at hs
  obtain ⟨cl⟩ := cs
  replace hs : cl.length = 2 := hs
  match cl, hs with
  | [v0, v1], _ =>
    obtain ⟨d0, p0, h0, _⟩ := hsub 0 3 0 rfl
    obtain ⟨d1, p1, h1, w1, _⟩ := hsub 1 23 1 rfl
    rw [cells_fi] at h0
    rw [cells_fb] at h1
    obtain ⟨z, rfl, _⟩ := int_read (v := v0) Tryd.underlying3 h0
    obtain ⟨sa, sc, sl, rfl, b1, b2, b3, _⟩ := bytes_read (v := v1) Tryd.underlying23 Tryd.underlying5 cells_fu bytes_fu h1 w1
    exact ⟨z, sa, sc, sl, rfl, b1, b2, b3⟩
end
end Go.Proofs.YtkgfdcagninphaaDoor
