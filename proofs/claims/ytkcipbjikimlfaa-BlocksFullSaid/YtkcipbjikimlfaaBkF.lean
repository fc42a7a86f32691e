/- Blocks: Walk, Load, Drop. -/
import Derived.Test.YtkcipbjikimlfaaBkE
namespace Go.Proofs.Ytkcipbjikimlfaa
open Go.RowKit Go.Maps
attribute [local go_sem ↓] Go.wp_at_zero Go.wp_at_succ
theorem walkN_good (R : Recs) (first : Nat) : ∀ (k : Nat) (met : List Nat) (id : Int), (∀ i ∈ met, goodR R first i = true) → ∀ i ∈ (walkN R first k met id).1, goodR R first i = true
  | 0, met, id, h => by
    intro i hi
    rw [walkN] at hi
    split at hi
    · exact h i hi
    · exact absurd hi (by simp)
  | k + 1, met, id, h => by
    intro i hi
    rw [walkN] at hi
    split at hi
    · exact h i hi
    · split at hi
      · exact absurd hi (by simp)
      · split at hi
        · rename_i hg
          exact walkN_good R first k _ _ (fun j hj => by
            rcases List.mem_append.1 hj with hj | hj
            · exact h j hj
            · rw [List.mem_singleton.1 hj]; exact hg) i hi
        · exact absurd hi (by simp)
theorem walkE_snd {s : RFS} {first : Int} : ∀ i ∈ (walkE s first).1, sndR s.R i = true := by
  intro i hi
  unfold walkE walkS at hi
  split at hi
  · exact absurd hi (by simp)
  · split at hi
    · exact goodR_snd (walkN_good s.R _ _ [] _ (fun j hj => absurd hj (by simp)) i hi)
    · exact absurd hi (by simp)
theorem sndR_used {R : Recs} {i : Nat} (h : sndR R i = true) : pUs (recAt R i) ≤ 25 := by
  unfold sndR soundV at h
  simp only [Bool.and_eq_true, decide_eq_true_eq] at h
  exact h.2.1
/-- the bytes that a block holds -/
def pieceR (R : Recs) (i : Nat) : List UInt8 := (pDa (recAt R i)).take (pUs (recAt R i))
theorem pieceR_le (R : Recs) (i : Nat) : (pieceR R i).length ≤ 25 := by
  unfold pieceR pDa
  rw [List.length_take, List.length_take]
  omega
def loadE (s : RFS) (first : Int) : List UInt8 := (walkE s first).1.flatMap (pieceR s.R)
def dropS (s : RFS) (L : List Nat) : RFS := L.foldl (fun s i => freS s (i : Nat)) s
theorem dropS_snoc (s : RFS) (L : List Nat) (i : Nat) : dropS s (L ++ [i]) = freS (dropS s L) (i : Nat) := by unfold dropS; rw [List.foldl_append]; rfl
theorem take_snocD {L : List Nat} {i : Nat} (h : i < L.length) : L.take (i + 1) = L.take i ++ [L.getD i 0] := by
  rw [List.take_add_one, List.getD_eq_getElem?_getD, List.getElem?_eq_getElem h]
  rfl
theorem walkN_len (R : Recs) (first : Nat) : ∀ (k : Nat) (met : List Nat) (id : Int), (walkN R first k met id).1.length ≤ met.length + k
  | 0, met, id => by
    rw [walkN]
    split <;> simp
  | k + 1, met, id => by
    rw [walkN]
    split
    · show met.length ≤ _; omega
    · split
      · simp
      · split
        · have := walkN_len R first k (met ++ [id.toNat]) (nxtR R id.toNat)
          simp at this
          omega
        · simp
theorem walkE_len {B : Nat} {bs : List Nat} {w : World} {p : Nat} {s : RFS} {first : Int} (h : RF B bs w p s) : (walkE s first).1.length ≤ 70000 := by
  have hl := h.ok.len
  unfold walkE walkS
  split
  · simp
  · split
    · have := walkN_len s.R first.toNat (s.R.length + 1) [] first
      simp at this
      omega
    · simp
theorem own_intC {w : World} {B n k : Nat} {v : Value} {L : List Nat} (h : w.ownsRow B 3 1 v n (L.map fun (k : Nat) => Value.int .i64 k)) (hk : k < L.length) : ∃ g c, v = .slice (some ⟨g, 0, none⟩) n c ∧ B ≤ g ∧ g < w.heap.size ∧ w.cell? ⟨g, k, none⟩ = some (.int .i64 (L.getD k 0 : Nat)) := by
  have hn : n = L.length := by have := h.1; simpa using this.symm
  rcases h.2 with ⟨rfl, h0⟩ | ⟨g, cap, cur, rfl, hb, hh, _⟩
  · omega
  · refine ⟨g, cap, rfl, hb, (Array.getElem?_eq_some_iff.1 hh).1, ?_⟩
    have hc := h.cells (g := g) rfl k (.int .i64 (L.getD k 0 : Nat)) (by simp [List.getD, hk])
    rw [addO, Nat.zero_add] at hc
    exact hc
end Go.Proofs.Ytkcipbjikimlfaa
