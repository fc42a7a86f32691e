/- The arguments of laws: a list of numbers. -/
import Derived.Test.YtibhbfmljibeaaaDoorRecA
import Derived.Test.YtibhbfmljibeaaaDoorStruct
import Derived.Deep.DeepHandedRow
namespace Go.Proofs.YtibhbfmljibeaaaDoor
open Go.ChangeShapes Go.WideShapes Go.ChangeAt Go.RowKit Go.Deep
section
variable {H : Type} {enc : TypeId × Value → H}
theorem intsArg_read {P : Program} {W : World} {t e : TypeId} {v : Value} {d : DataW H} {p : List MemPlace} {fuel : Nat} (ht : P.underlying t = some (.slice e)) (he : P.underlying e = some (.int .i64)) (hc : P.cellsOf e = 1) (hby : P.bytesOf e = 8)
    (hf : DataW.trod enc P W 0 (fun _ => true) true fuel t [v] = some (d, p)) (hw : Wt P t d) :
    ∃ a cap l, v = .slice a (List.length l) cap ∧ List.length l ≤ 17592186044000 ∧ (a = none → cap = 0) ∧ Ints W a l ∧ List.length l ≤ dlen d := by
  rcases open_ints ht he hc hf with ⟨hcs, _⟩ | ⟨a, len', cap', zs, hcs, _, hl, hm, hz, hx, hcell, hwz⟩
  · simp only [List.cons.injEq, and_true] at hcs
    subst hcs
    exact ⟨none, 0, [], rfl, by simp, fun _ => rfl, Or.inl rfl, by simp⟩
  · simp only [List.cons.injEq, and_true] at hcs
    subst hcs
    simp only [Prod.mk.injEq] at hx
    rw [hx.1] at hw
    have hs := hw.len ht
    rw [hby] at hs
    simp only [lits, List.length_map, List.length_take, List.length_drop] at hs
    have hzl : zs.length = cap' := by simpa using hz
    have hL : (zs.take len').length = len' := by simp; omega
    refine ⟨some a, cap', zs.take len', by rw [hL], by unfold reachBytes at hs; omega, fun h => (by cases h), ?_, by rw [hx.1]; simp [dlen, lits]⟩
    rcases Nat.eq_zero_or_pos len' with h0 | hpos
    · subst h0; exact Or.inl (by simp)
    · obtain ⟨b, off, rfl⟩ := addr_eq (a := a) (by
        have := spot_none (hcell 0 (by omega))
        have e : (a.add 0).spot = a.spot := by unfold Addr.add; simp
        rwa [e] at this)
      refine Or.inr ⟨b, off, rfl, fun j hj => ?_⟩
      have hjl : j < len' := by rwa [hL] at hj
      have h1 := hcell j (by omega)
      rw [Addr.add_lit] at h1
      rw [h1]
      simp [List.getD_eq_getElem?_getD, hjl]
set_option maxRecDepth 100000 in
theorem intsArg {W : World} {base : Nat} {v : Value} {d : DataW H} {p : List MemPlace} (hv : Value.okWide Tryd.prog W .any base 30 v) (h : DataW.Trod enc Tryd.prog W 0 (fun _ => true) true 30 v d p) (hw : Wt Tryd.prog 30 d) :
    ∃ a cap l, v = .slice a (List.length l) cap ∧ List.length l ≤ 17592186044000 ∧ (a = none → cap = 0) ∧ Ints W a l ∧ List.length l ≤ dlen d := by
  obtain ⟨a0, len, cap, rfl⟩ := okWide_slice Tryd.underlying30 hv
  obtain ⟨fuel, hf⟩ := h
  exact intsArg_read Tryd.underlying30 Tryd.underlying3 (by kernel_rfl) (by kernel_rfl) hf hw
end
end Go.Proofs.YtibhbfmljibeaaaDoor
