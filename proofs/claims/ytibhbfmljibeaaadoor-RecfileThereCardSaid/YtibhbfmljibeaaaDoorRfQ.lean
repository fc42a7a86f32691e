/- Record files: the plain law of RecfileLowest. No program. -/
import Derived.Test.YtibhbfmljibeaaaDoorRfE
namespace Go.Proofs.YtibhbfmljibeaaaDoor
open Go.RowKit

theorem lowest_full : ∀ {R : Recs}, R.length ≤ lowest R → liveN R = R.length
  | [], _ => rfl
  | none :: R, h => by simp [lowest] at h
  | some d :: R, h => by
    have := lowest_full (R := R) (by simpa [lowest] using h)
    unfold liveN at this ⊢
    rw [List.countP_cons, this]
    rfl
theorem used_get {R : Recs} {k : Nat} (h : (R.getD k none).isSome = true) : ∃ d, R[k]? = some (some d) := by
  have := usedR_lt ((usedR_nat R k).trans h)
  rw [Int.toNat_natCast] at this
  exact this.2.2
/-- where Alloc is refused all are in use -/
theorem al_full {s : RFS} (h : s.Ok) (he : alE s ≠ 0) : alE s = 5 ∧ alI s = 0 ∧ liveN s.R = 65536 := by
  unfold alE at he ⊢
  unfold alI
  by_cases h1 : 65536 ≤ lowest s.R
  · rw [if_pos h1, if_pos h1]
    refine ⟨rfl, rfl, ?_⟩
    have h2 := h.len
    have h3 := lowest_le s.R
    rw [lowest_full (by omega)]
    omega
  · rw [if_neg h1] at he; exact absurd rfl he
structure AlOk (s : RFS) (k : Nat) (t : RFS) : Prop where
  id : alI s = k
  lt : k < 65536
  st : alS s = t
  used : ∀ i, i ≤ k → usedR t.R i = true
  live : liveN t.R = liveN s.R + 1
theorem al_ok {s : RFS} (_h : s.Ok) (he : alE s = 0) : ∃ k t, AlOk s k t := by
  have h1 : ¬ 65536 ≤ lowest s.R := by
    intro h1
    unfold alE at he
    rw [if_pos h1] at he
    cases he
  refine ⟨lowest s.R, alS s, if_neg h1, by omega, rfl, ?_, ?_⟩
  · intro i hi
    unfold alS
    rw [if_neg h1]
    show usedR (putR s.R (lowest s.R) (zs (s.sz - 1))) i = true
    rw [usedR_nat, putR_get]
    by_cases h2 : i = lowest s.R
    · rw [if_pos h2]; rfl
    · rw [if_neg h2]
      obtain ⟨d, hd⟩ := lowest_used s.R i (by omega)
      rw [List.getD_eq_getElem?_getD, hd]; rfl
  · unfold alS
    rw [if_neg h1]
    show liveN (putR s.R (lowest s.R) (zs (s.sz - 1))) = _
    have := liveN_put s.R (lowest s.R) (zs (s.sz - 1))
    rw [lowest_free] at this
    simpa using this
theorem freS_live {s : RFS} {k : Nat} (h : usedR s.R k = true) : freE s k = 0 ∧ liveN (freS s k).R + 1 = liveN s.R := by
  refine ⟨if_pos h, ?_⟩
  unfold freS
  rw [if_pos h]
  have := liveN_free s.R k (by rw [← usedR_nat]; exact h)
  simpa using this
end Go.Proofs.YtibhbfmljibeaaaDoor
