/- Frames: the plain law of FrameThere. -/
import Derived.Test.YtkgfdcagninphaaDoorFrR
import Derived.Test.YtkgfdcagninphaaDoorFrArgT
namespace Go.Proofs.YtkgfdcagninphaaDoor
open Go.RowKit
attribute [local go_sem ↓] Go.wp_at_zero Go.wp_at_succ
/-- the frames of a list, packed one behind the other -/
def whF (F : Nat → FV) : Nat → List UInt8
  | 0 => []
  | k + 1 => whF F k ++ fL (F k).z (F k).d
def frF (F : Nat → FV) : Nat → List (UInt8 × List UInt8)
  | 0 => []
  | k + 1 => frF F k ++ [(UInt8.ofNat (F k).z.toNat, (F k).d)]
theorem whF_packed (F : Nat → FV) : ∀ n, (∀ j, j < n → errP (F j).z (F j).d = 0) → whF F n = packed (frF F n) ∧ ∀ f ∈ frF F n, f.2.length ≤ 1048576
  | 0, _ => ⟨rfl, fun f h => by cases h⟩
  | n + 1, h => by
    obtain ⟨h1, h2⟩ := whF_packed F n fun j hj => h j (by omega)
    have he := h n (by omega)
    refine ⟨?_, fun f hf => ?_⟩
    · show whF F n ++ fL _ _ = packed (frF F n ++ _)
      rw [h1, fL_ok he]
      unfold packed
      rw [List.flatMap_append]
      simp
    · rcases List.mem_append.1 hf with hf | hf
      · exact h2 f hf
      · obtain rfl := List.mem_singleton.1 hf
        exact (errP_0 he).2
theorem whF_run (F : Nat → FV) (n : Nat) (h : ∀ j, j < n → errP (F j).z (F j).d = 0) : run (whF F n) = (frF F n, (whF F n).length, 0) := by
  obtain ⟨h1, h2⟩ := whF_packed F n h
  rw [h1]
  exact run_packed _ h2
theorem whF_spl (F : Nat → FV) (n : Nat) (h : ∀ j, j < n → errP (F j).z (F j).d = 0) : spl (whF F n) = (frF F n, 0) := by
  unfold spl
  rw [whF_run F n h]
  simp
theorem whF_length (F : Nat → FV) : ∀ n, (whF F n).length ≤ n * 1048585
  | 0 => by simp [whF]
  | n + 1 => by
    have h1 := whF_length F n
    have h2 := fL_length (F n).z (F n).d
    show (whF F n ++ fL _ _).length ≤ _
    rw [List.length_append]
    omega
theorem frF_length (F : Nat → FV) : ∀ n, (frF F n).length = n
  | 0 => rfl
  | n + 1 => by show (frF F n ++ _).length = _; rw [List.length_append, frF_length F n]; rfl
theorem and63 (i : Int) : ∃ j : Nat, j ≤ 63 ∧ bits .and .i64 i 63 = (j : Int) := by
  refine ⟨(BitVec.ofInt 64 i &&& 63#64).toNat, ?_, ?_⟩
  · rw [BitVec.toNat_and]
    have : (63#64).toNat = 63 := rfl
    rw [this]
    exact Nat.and_le_right
  · show IntKind.i64.wrap ((BitVec.ofInt 64 i &&& BitVec.ofInt 64 63).toNat : Int) = _
    have h1 : BitVec.ofInt 64 63 = 63#64 := by decide
    rw [h1]
    have h2 : (BitVec.ofInt 64 i &&& 63#64).toNat ≤ 63 := by
      rw [BitVec.toNat_and]
      have : (63#64).toNat = 63 := rfl
      rw [this]
      exact Nat.and_le_right
    exact IntWalk.i64_in _ (by omega)
theorem sz_app (l c : List UInt8) (h : ¬ l.length < 5) : sz (l ++ c) = sz l := by
  unfold sz
  rw [List.drop_append_of_le_length (by omega), List.take_append_of_le_length (by rw [List.length_drop]; omega)]
theorem one_long_app {l : List UInt8} (h : one l = .long) (c : List UInt8) : one (l ++ c) = .long := by
  unfold one at h
  split at h
  · cases h
  split at h
  · rename_i h1 h2
    exact one_long (by rw [List.length_append]; omega) (by rw [sz_app _ _ h1]; exact h2)
  split at h
  · cases h
  split at h <;> cases h
theorem one_bad_app {l : List UInt8} (h : one l = .bad) (c : List UInt8) : one (l ++ c) = .bad := by
  unfold one at h
  split at h
  · cases h
  split at h
  · cases h
  split at h
  · cases h
  split at h
  · rename_i h1 h2 h3 h4
    have hs := sz_app l c h1
    refine one_bad (by rw [List.length_append]; omega) (by rw [hs]; exact h2) (by rw [hs, List.length_append]; omega) ?_
    rw [hs]
    have e1 : su (l ++ c) (sz l) = su l (sz l) := by
      unfold su
      rw [List.drop_append_of_le_length (by omega), List.take_append_of_le_length (by rw [List.length_drop]; omega)]
    rw [e1, List.take_append_of_le_length (by omega)]
    exact h4
  · cases h
/-- an error stays, whatever stands behind -/
theorem run_err_app (c : List UInt8) : ∀ (n : Nat) (l : List UInt8), l.length ≤ n → (run l).2.2 ≠ 0 → (run (l ++ c)).2.2 = (run l).2.2 := by
  intro n
  induction n with
  | zero =>
    intro l h h0
    have : l = [] := List.eq_nil_of_length_eq_zero (by omega)
    subst this
    rw [run_cut one_nil] at h0
    exact absurd rfl h0
  | succ n ih =>
    intro l h h0
    cases ho : one l with
    | cut => rw [run_cut ho] at h0; exact absurd rfl h0
    | long => rw [run_long ho, run_long (one_long_app ho c)]
    | bad => rw [run_bad ho, run_bad (one_bad_app ho c)]
    | ok t d =>
      obtain ⟨_, _, _, _, h5, _⟩ := one_ok_inv ho
      have hr := run_ok ho
      rw [hr] at h0 ⊢
      have ed : (l ++ c).drop (d.length + 9) = l.drop (d.length + 9) ++ c := List.drop_append_of_le_length h5
      rw [run_ok (one_app ho c), ed]
      exact ih _ (by rw [List.length_drop]; omega) h0
theorem run_take (L : List UInt8) (q : Nat) (h : (run L).2.2 = 0) : (run (L.take q)).2.2 = 0 := by
  by_cases h0 : (run (L.take q)).2.2 = 0
  · exact h0
  · have := run_err_app (L.drop q) _ _ (Nat.le_refl _) h0
    rw [List.take_append_drop, h] at this
    exact absurd this.symm h0
/-- a piece more is fed -/
theorem feed_step (WH : List UInt8) (q M : Nat) (h0 : (run WH).2.2 = 0) (r ch : List UInt8) (hr : r = (WH.take q).drop (run (WH.take q)).2.1) (hc : ch = (WH.drop q).take M) :
    (run (r ++ ch)).2.2 = 0 ∧ (run (WH.take (q + M))).1 = (run (WH.take q)).1 ++ (run (r ++ ch)).1 ∧ (r ++ ch).drop (run (r ++ ch)).2.1 = (WH.take (q + M)).drop (run (WH.take (q + M))).2.1 := by
  have e : WH.take (q + M) = WH.take q ++ ch := by rw [hc, List.take_add]
  have ha := run_app ch _ (WH.take q) (Nat.le_refl _) (run_take WH q h0)
  rw [← hr, ← e] at ha
  have h1 := run_take WH (q + M) h0
  rw [ha] at h1
  refine ⟨h1, by rw [ha], ?_⟩
  rw [ha]
  simp only []
  rw [e, ← List.drop_drop, List.drop_append_of_le_length (run_end (WH.take q)).1, ← hr]
end Go.Proofs.YtkgfdcagninphaaDoor
