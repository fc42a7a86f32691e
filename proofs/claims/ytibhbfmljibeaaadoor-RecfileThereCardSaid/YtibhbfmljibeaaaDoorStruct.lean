/- How structs and lists of structs in arguments are opened. No program. -/
import Derived.Test.YtibhbfmljibeaaaDoorLaw
import Derived.Test.YtibhbfmljibeaaaDoorU64
namespace Go.Proofs.YtibhbfmljibeaaaDoor
open Go.ChangeShapes Go.WideShapes Go.ChangeAt Go.RowKit Go.Deep
section
variable {H : Type} {enc : TypeId × Value → H} {P : Program}
theorem Wt.field {t : TypeId} {fs : Array Field} {ds : List (DataW H)} (h : Wt P t (.agg ds)) (hu : P.underlying t = some (.struct fs)) {i : Nat} {f : Field} {d : DataW H} (hf : fs[i]? = some f) (hd : ds[i]? = some d) : Wt P f.type d := by
  intro n hn
  apply h
  unfold DataW.weights
  rw [hu]
  exact DataW.weights_mem_each (j := i) (by simp [hf]) hd n hn
/-- each field of one cell reads by its type -/
def Fields (enc : TypeId × Value → H) (P : Program) (W : World) (fs : Array Field) (cs : List Value) (ds : List (DataW H)) : Prop :=
  ∃ n, ∀ (i t off : Nat), (fs[i]?).map (fun f => (f.type, f.offset)) = some (t, off) → ∀ v, cs[off]? = some v → P.cellsOf t = 1 → ∃ d' p', DataW.trod enc P W 0 (fun _ => true) true n t [v] = some (d', p') ∧ Wt P t d' ∧ d' ∈ ds
theorem struct_read {W : World} {t : TypeId} {fs : Array Field} {cs : List Value} {d : DataW H} {p : List MemPlace} {fuel : Nat} (ht : P.underlying t = some (.struct fs))
    (h : DataW.trod enc P W 0 (fun _ => true) true fuel t cs = some (d, p)) (hw : Wt P t d) : cs.length = P.cellsOf t ∧ ∃ ds, d = .agg ds ∧ Fields enc P W fs cs ds := by
  obtain ⟨xs, n, _, hx, hl, hlen, hf⟩ := DataW.trod_struct ht h
  simp only [Prod.mk.injEq] at hx
  rw [hx.1] at hw
  refine ⟨hl, _, hx.1, n, fun i t off hi v hv hc => ?_⟩
  obtain ⟨f, hi2, e2⟩ := Option.map_eq_some_iff.1 hi
  simp only [Prod.mk.injEq] at e2
  obtain ⟨rfl, rfl⟩ := e2
  have hlt : i < fs.size := (Array.getElem?_eq_some_iff.1 hi2).1
  have e : xs[i]? = some (xs[i]'(by omega)) := List.getElem?_eq_getElem (by omega)
  have h1 := (hf i f hi2).trans e
  obtain ⟨hlt2, hv2⟩ := List.getElem?_eq_some_iff.1 hv
  rw [hc, List.drop_eq_getElem_cons hlt2, hv2] at h1
  refine ⟨(xs[i]'(by omega)).1, (xs[i]'(by omega)).2, by simpa using h1, hw.field ht hi2 ?_, ?_⟩
  · simp [e]
  · exact List.mem_map.2 ⟨_, List.getElem_mem _, rfl⟩
theorem int_read {W : World} {t : TypeId} {k : IntKind} {v : Value} {d : DataW H} {p : List MemPlace} {fuel : Nat} (ht : P.underlying t = some (.int k)) (h : DataW.trod enc P W 0 (fun _ => true) true fuel t [v] = some (d, p)) :
    ∃ z, v = .int k z ∧ (Lit.int k z).wf = true := by
  obtain ⟨n, h1, _, hw⟩ := DataW.trod_int ht h
  simp only [List.cons.injEq, and_true] at h1
  exact ⟨n, h1, hw⟩
theorem bd_u64 {n : Int} (h : (Lit.int .u64 n).wf = true) : 0 ≤ n ∧ n ≤ 18446744073709551615 := by
  simp only [Lit.wf, Bool.and_eq_true, decide_eq_true_eq] at h
  exact h
theorem u64_read {W : World} {t : TypeId} {v : Value} {d : DataW H} {p : List MemPlace} {fuel : Nat} (ht : P.underlying t = some (.int .u64)) (h : DataW.trod enc P W 0 (fun _ => true) true fuel t [v] = some (d, p)) :
    ∃ n : Nat, v = .int .u64 (U n) ∧ n < 18446744073709551616 := by
  obtain ⟨z, rfl, hw⟩ := int_read ht h
  obtain ⟨n, hn, rfl⟩ := U_of_int z (bd_u64 hw).1 (bd_u64 hw).2
  exact ⟨n, rfl, hn⟩
theorem struct_arg {W : World} {base : Nat} {t : TypeId} {fs : Array Field} {v : Value} {d : DataW H} {p : List MemPlace} (ht : P.underlying t = some (.struct fs))
    (hv : Value.okWide P W .any base t v) (h : DataW.Trod enc P W 0 (fun _ => true) true t v d p) (hw : Wt P t d) :
    ∃ cs, v = .agg cs ∧ cs.size = P.cellsOf t ∧ ∃ ds, d = .agg ds ∧ Fields enc P W fs cs.toList ds := by
  obtain ⟨cs, rfl, hs⟩ := okWide_struct ht hv
  obtain ⟨fuel, hf⟩ := h
  exact ⟨cs, rfl, hs, (struct_read ht hf hw).2⟩
end
end Go.Proofs.YtibhbfmljibeaaaDoor
