/- The arguments of the frames' laws: a Frame. -/
import Derived.Test.YtibhbfmljibeaaaDoorStruct
import Derived.Test.YtibhbfmljibeaaaDoorFresh
import Derived.Test.YtibhbfmljibeaaaDoorRecA
namespace Go.Proofs.YtibhbfmljibeaaaDoor
open Go.ChangeShapes Go.WideShapes Go.ChangeAt Go.RowKit Go.Deep
section
variable {H : Type} {enc : TypeId × Value → H}
theorem struct_subF {P : Program} {W : World} {t : TypeId} {fs : Array Field} {cs : List Value} {d : DataW H} {p : List MemPlace} {fuel : Nat} (ht : P.underlying t = some (.struct fs))
    (h : DataW.trod enc P W 0 (fun _ => true) true fuel t cs = some (d, p)) (hw : Wt P t d) : cs.length = P.cellsOf t ∧ ∃ ds n, d = .agg ds ∧ ∀ (i u off : Nat), (fs[i]?).map (fun f => (f.type, f.offset)) = some (u, off) → ∃ d' p', DataW.trod enc P W 0 (fun _ => true) true n u ((cs.drop off).take (P.cellsOf u)) = some (d', p') ∧ Wt P u d' ∧ d' ∈ ds := by
  obtain ⟨xs, n, _, hx, hl, hlen, hf⟩ := DataW.trod_struct ht h
  simp only [Prod.mk.injEq] at hx
  rw [hx.1] at hw
  refine ⟨hl, _, n, hx.1, fun i u off hi => ?_⟩
  obtain ⟨f, hi2, e2⟩ := Option.map_eq_some_iff.1 hi
  simp only [Prod.mk.injEq] at e2
  obtain ⟨rfl, rfl⟩ := e2
  have hlt : i < fs.size := (Array.getElem?_eq_some_iff.1 hi2).1
  have e : xs[i]? = some (xs[i]'(by omega)) := List.getElem?_eq_getElem (by omega)
  have h1 := (hf i f hi2).trans e
  refine ⟨(xs[i]'(by omega)).1, (xs[i]'(by omega)).2, h1, hw.field ht hi2 ?_, ?_⟩
  · simp [e]
  · exact List.mem_map.2 ⟨_, List.getElem_mem _, rfl⟩
theorem cells_fi : Tryd.prog.cellsOf 3 = 1 := by kernel_rfl
theorem cells_fb : Tryd.prog.cellsOf 23 = 1 := by kernel_rfl
theorem cells_fu : Tryd.prog.cellsOf 5 = 1 := by kernel_rfl
theorem bytes_fu : Tryd.prog.bytesOf 5 = 1 := by kernel_rfl
end
end Go.Proofs.YtibhbfmljibeaaaDoor
