/- The arguments of the records' laws: a list of numbers, a NodeTwo. -/
import Derived.Test.YtbhmfbhfofgfaaaRecArgs
namespace Go.Proofs.Ytbhmfbhfofgfaaa
open Go.ChangeShapes Go.WideShapes Go.ChangeAt Go.RowKit Go.Deep
section
variable {H : Type} {enc : TypeId × Value → H}
theorem ints_read {P : Program} {W : World} {t e : TypeId} {v : Value} {d : DataW H} {p : List MemPlace} {fuel : Nat} (ht : P.underlying t = some (.slice e)) (he : P.underlying e = some (.int .i64)) (hc : P.cellsOf e = 1) (hby : P.bytesOf e = 8)
    (hf : DataW.trod enc P W 0 (fun _ => true) true fuel t [v] = some (d, p)) (hw : Wt P t d) :
    ∃ a cap l, v = .slice a (List.length l) cap ∧ List.length l ≤ 17592186044000 ∧ (a = none → cap = 0) ∧ Ints W a l := by
  rcases open_ints ht he hc hf with ⟨hcs, _⟩ | ⟨a, len', cap', zs, hcs, _, hl, hm, hz, hx, hcell, hwz⟩
  · simp only [List.cons.injEq, and_true] at hcs
    subst hcs
    exact ⟨none, 0, [], rfl, by simp, fun _ => rfl, Or.inl rfl⟩
  · simp only [List.cons.injEq, and_true] at hcs
    subst hcs
    simp only [Prod.mk.injEq] at hx
    rw [hx.1] at hw
    have hs := hw.len ht
    rw [hby] at hs
    simp only [lits, List.length_map, List.length_take, List.length_drop] at hs
    have hzl : zs.length = cap' := by simpa using hz
    have hL : (zs.take len').length = len' := by simp; omega
    refine ⟨some a, cap', zs.take len', by rw [hL], by unfold reachBytes at hs; omega, fun h => (by cases h), ?_⟩
    rcases Nat.eq_zero_or_pos len' with h0 | hpos
    · subst h0; exact Or.inl (by simp)
    · obtain ⟨b, off, rfl⟩ := addr_eq (a := a) (by
        have := spot_none (hcell 0 (by omega))
        have e : (a.add 0).spot = a.spot := by unfold Addr.add; simp
        rwa [e] at this)
      refine Or.inr ⟨b, off, rfl, fun j hj => ?_⟩
      have hjl : j < len' := by rwa [hL] at hj
      have h1 := hcell j (by omega)
      rw [Addr.add_lit] at h1
      rw [h1]
      simp [List.getD_eq_getElem?_getD, hjl]
theorem bytes_i8 : Try.prog.bytesOf 3 = 8 := by kernel_rfl
theorem cells_si : Try.prog.cellsOf 41 = 1 := by kernel_rfl
end
end Go.Proofs.Ytbhmfbhfofgfaaa
