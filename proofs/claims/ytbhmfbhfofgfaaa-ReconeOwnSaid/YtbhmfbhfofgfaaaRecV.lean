/- The walks of the copy and the comparison of nodes of version 2. -/
import Derived.Test.YtbhmfbhfofgfaaaRecT
import Derived.Test.YtbhmfbhfofgfaaaRecU
namespace Go.Proofs.Ytbhmfbhfofgfaaa
open Go.RowKit
attribute [local go_sem ↓] Go.wp_at_zero Go.wp_at_succ
theorem Ints.news {w : World} {a : Option Addr} {l : List Int} (h : Ints w a l) : ∀ ad, a = some ad → ∀ j u, (l.map (Value.int .i64))[j]? = some u → w.cell? (ad.add j) = some u := by
  rintro ad rfl j u hu
  have hj : j < l.length := by
    have := (List.getElem?_eq_some_iff.1 hu).1
    simpa using this
  obtain ⟨b, off, e, hc⟩ := h.at (by omega)
  cases e
  rw [Addr.add_lit, hc j hj]
  have : (l.map (Value.int .i64))[j]? = some (.int .i64 (l.getD j 0)) := by simp [List.getD, hj]
  rw [this] at hu
  exact hu
theorem Ints.none {w : World} {a : Option Addr} {l : List Int} {c : Nat} (h : Ints w a l) (hc : a = none → c = 0) : a = none → l.length = 0 ∧ c = 0 := by
  rintro rfl
  rcases h with rfl | ⟨_, _, h, _⟩
  · exact ⟨rfl, hc rfl⟩
  · cases h
theorem ints_one (l : List Int) : ∀ u ∈ l.map (Value.int .i64), u.oneCell' = true := by
  intro u hu
  obtain ⟨_, _, rfl⟩ := List.mem_map.1 hu
  rfl
theorem bytes_low {w : World} {a : Option Addr} {l : List UInt8} {S : List Nat} (h : Bytes w a l) (hS : ∀ k, k < w.heap.size → k ∉ S) : l = [] ∨ ∀ ad, a = some ad → ad.block ∉ S := by
  rcases h with h | ⟨b, off, rfl, hc⟩
  · exact .inl h
  · by_cases h0 : l = []
    · exact .inl h0
    · refine .inr fun ad e => ?_
      cases e
      exact hS b (World.block_lt_of_cell? w _ (hc 0 (List.length_pos_iff.2 h0)))
end Go.Proofs.Ytbhmfbhfofgfaaa
