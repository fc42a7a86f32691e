/- How much a list of frames holds, where what is read is small. -/
import Derived.Test.YtkgfdcagninphaaDoorBulk
import Derived.Test.YtkgfdcagninphaaDoorFrArgT
namespace Go.Proofs.YtkgfdcagninphaaDoor
theorem small_boundF {H : Type} {l : List (DataW H)} (hk : Rows.uptoSmall H l = true) {d : DataW H} (hd : d ∈ l) {n : Nat} {F : Nat → FV} (hs : SmallF d n F) : n ≤ 1048576 ∧ ∀ k, k < n → (F k).d.length ≤ 1048576 := by
  have h1 := bulk_bound hk
  have h2 := bulk_part hd
  rcases hs with rfl | ⟨elems, spare, rfl, hn, hF⟩
  · exact ⟨by omega, fun k h => absurd h (by omega)⟩
  · have h3 := bulk_len elems
    simp only [Rows.uptoBulk] at h2
    refine ⟨by omega, fun k hlt => ?_⟩
    obtain ⟨ds, d3, hm, hm2, hle⟩ := hF k hlt
    have h4 := bulk_part hm
    have h5 := bulk_part hm2
    have h6 := bulk_dlen d3
    simp only [Rows.uptoBulk] at h4
    omega
end Go.Proofs.YtkgfdcagninphaaDoor
