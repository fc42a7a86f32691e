/- The arguments of the records' laws: a list of numbers, a NodeTwo. -/
import Derived.Test.YtmekplamjlnhcaaRecArgs
namespace Go.Proofs.Ytmekplamjlnhcaa
open Go.ChangeShapes Go.WideShapes Go.ChangeAt Go.RowKit Go.Deep
section
variable {H : Type} {enc : TypeId × Value → H}
theorem ints_read {P : Program} {W : World} {t e : TypeId} {v : Value} {d : DataW H} {p : List MemPlace} {fuel : Nat} (ht : P.underlying t = some (.slice e)) (he : P.underlying e = some (.int .i64)) (hc : P.cellsOf e = 1) (hby : P.bytesOf e = 8)
    (hf : DataW.trod enc P W 0 (fun _ => true) true fuel t [v] = some (d, p)) (hw : Wt P t d) :
    ∃ a cap l, v = .slice a (List.length l) cap ∧ List.length l ≤ 17592186044000 ∧ (a = none → cap = 0) ∧ Ints W a l := by
  rcases open_ints ht he hc hf with ⟨hcs, _⟩ | ⟨a, len', cap', zs, hcs, _, hl, hm, hz, hx, hcell, hwz⟩
  · simp only [List.cons.injEq, and_true] at hcs
    subst hcs
    exact ⟨none, 0, [], rfl, by simp, fun _ => rfl, Or.inl rfl⟩
  · simp only [List.cons.injEq, and_true] at hcs
    subst hcs
    simp only [Prod.mk.injEq] at hx
    rw [hx.1] at hw
    have hs := hw.len ht
    rw [hby] at hs
    simp only [lits, List.length_map, List.length_take, List.length_drop] at hs
    have hzl : zs.length = cap' := by simpa using hz
    have hL : (zs.take len').length = len' := by simp; omega
    refine ⟨some a, cap', zs.take len', by rw [hL], by unfold reachBytes at hs; omega, fun h => (by cases h), ?_⟩
    rcases Nat.eq_zero_or_pos len' with h0 | hpos
    · subst h0; exact Or.inl (by simp)
    · obtain ⟨b, off, rfl⟩ := addr_eq (a := a) (by
        have := spot_none (hcell 0 (by omega))
        have e : (a.add 0).spot = a.spot := by unfold Addr.add; simp
        rwa [e] at this)
      refine Or.inr ⟨b, off, rfl, fun j hj => ?_⟩
      have hjl : j < len' := by rwa [hL] at hj
      have h1 := hcell j (by omega)
      rw [Addr.add_lit] at h1
      rw [h1]
      simp [List.getD_eq_getElem?_getD, hjl]
theorem bytes_i8 : Try.prog.bytesOf 3 = 8 := by kernel_rfl
theorem cells_si : Try.prog.cellsOf 52 = 1 := by kernel_rfl
theorem cells_n : Try.prog.cellsOf 54 = 5 := by kernel_rfl
theorem nodeArg {W : World} {base : Nat} {v : Value} {d : DataW H} {p : List MemPlace} (hv : Value.okWide Try.prog W .any base 54 v) (h : DataW.Trod enc Try.prog W 0 (fun _ => true) true 54 v d p) (hw : Wt Try.prog 54 d) :
    ∃ (b : Bool) (z1 z2 : Int) (la : Option Addr) (lc : Nat) (labs : List Int) (sa : Option Addr) (sc : Nat) (sl : List UInt8), v = .agg #[.bool b, .int .i64 z1, .int .i64 z2, .slice la labs.length lc, .slice sa sl.length sc] ∧ (labs.length ≤ 17592186044000 ∧ (la = none → lc = 0)) ∧ Ints W la labs ∧ sl.length ≤ 140737488351232 ∧ (sa = none → sc = 0) ∧ Bytes W sa sl := by
  obtain ⟨cs, rfl, hs⟩ := okWide_struct Try.underlying54 hv
  obtain ⟨fuel, hf⟩ := h
  obtain ⟨_, ds, n, _, hsub⟩ := struct_sub Try.underlying54 hf hw
  rw [cells_n] at hs
  obtain ⟨cl⟩ := cs
  replace hs : cl.length = 5 := hs
  match cl, hs with
  | [v0, v1, v2, v3, v4], _ =>
    obtain ⟨d0, p0, h0, _⟩ := hsub 0 4 0 rfl
    obtain ⟨d1, p1, h1, _⟩ := hsub 1 3 1 rfl
    obtain ⟨d2, p2, h2, _⟩ := hsub 2 3 2 rfl
    obtain ⟨d3, p3, h3, w3, _⟩ := hsub 3 52 3 rfl
    obtain ⟨d4, p4, h4, w4, _⟩ := hsub 4 25 4 rfl
    rw [cells_b] at h0
    rw [cells_i] at h1 h2
    rw [cells_si] at h3
    rw [cells_bs8] at h4
    obtain ⟨b, rfl⟩ := bool_read (v := v0) Try.underlying4 h0
    obtain ⟨z1, rfl, _⟩ := int_read (v := v1) Try.underlying3 h1
    obtain ⟨z2, rfl, _⟩ := int_read (v := v2) Try.underlying3 h2
    obtain ⟨la, lc, labs, rfl, e1, e2, e3⟩ := ints_read (v := v3) Try.underlying52 Try.underlying3 cells_i bytes_i8 h3 w3
    obtain ⟨sa, sc, sl, rfl, b1, b2, b3, _⟩ := bytes_read (v := v4) Try.underlying25 Try.underlying5 cells_u1 bytes_u1 h4 w4
    exact ⟨b, z1, z2, la, lc, labs, sa, sc, sl, rfl, ⟨e1, e2⟩, e3, b1, b2, b3⟩
end
end Go.Proofs.Ytmekplamjlnhcaa
