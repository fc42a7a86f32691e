/- Blocks: the plain law: a block's bytes, the free ids, what Store leaves. No program. -/
import Derived.Test.YtkcipbjikimlfaaDoorRfP
namespace Go.Proofs.YtkcipbjikimlfaaDoor

theorem recs_ext {R S : Recs} (hl : R.length = S.length) (h : ∀ i, R.getD i none = S.getD i none) : R = S := by
  refine List.ext_getElem hl fun i h1 h2 => ?_
  have := h i
  simpa [List.getD_eq_getElem?_getD, List.getElem?_eq_getElem h1, List.getElem?_eq_getElem h2] using this
theorem putR_twice (R : Recs) (i : Nat) (d e : List UInt8) : putR (putR R i d) i e = putR R i e := by
  refine recs_ext (by rw [putR_length, putR_length, putR_length]; omega) fun j => ?_
  rw [putR_get, putR_get, putR_get]
  by_cases h : j = i
  · rw [if_pos h, if_pos h]
  · rw [if_neg h, if_neg h, if_neg h]
theorem putR_comm (R : Recs) {i j : Nat} (h : i ≠ j) (d e : List UInt8) : putR (putR R i d) j e = putR (putR R j e) i d := by
  refine recs_ext (by rw [putR_length, putR_length, putR_length, putR_length]; omega) fun k => ?_
  rw [putR_get, putR_get, putR_get, putR_get]
  by_cases h1 : k = j
  · rw [if_pos h1, if_neg (by omega), if_pos h1]
  · rw [if_neg h1]
    by_cases h2 : k = i
    · rw [if_pos h2, if_pos h2]
    · rw [if_neg h2, if_neg h2, if_neg h1]
/-- records are laid down -/
def storeR (R : Recs) : List (Nat × List UInt8) → Recs
  | [] => R
  | (i, d) :: L => storeR (putR R i d) L
theorem storeR_snoc : ∀ (R : Recs) (L : List (Nat × List UInt8)) (i : Nat) (d : List UInt8), storeR R (L ++ [(i, d)]) = putR (storeR R L) i d
  | _, [], _, _ => rfl
  | R, (j, e) :: L, i, d => storeR_snoc (putR R j e) L i d
theorem storeR_over : ∀ (R : Recs) (L : List (Nat × List UInt8)) (i : Nat) (d e : List UInt8), (∀ x ∈ L, x.1 ≠ i) → putR (storeR (putR R i d) L) i e = storeR (putR R i e) L
  | R, [], i, d, e, _ => putR_twice R i d e
  | R, (j, f) :: L, i, d, e, h => by
    have hj : j ≠ i := h (j, f) List.mem_cons_self
    show putR (storeR (putR (putR R i d) j f) L) i e = storeR (putR (putR R i e) j f) L
    rw [putR_comm R (Ne.symm hj), storeR_over (putR R j f) L i d e fun x hx => h x (List.mem_cons_of_mem _ hx), putR_comm R (Ne.symm hj)]
/-- what was laid first is laid over -/
theorem storeR_two (z : List UInt8) : ∀ (R : Recs) (L : List (Nat × List UInt8)), (L.map Prod.fst).Nodup → storeR (storeR R (L.map fun x => (x.1, z))) L = storeR R L
  | _, [], _ => rfl
  | R, (i, d) :: L, h => by
    rw [List.map_cons, List.nodup_cons] at h
    show storeR (putR (storeR (putR R i z) (L.map fun x => (x.1, z))) i d) L = storeR (putR R i d) L
    rw [storeR_over R (L.map fun x => (x.1, z)) i z d ?_, storeR_two z (putR R i d) L h.2]
    intro x hx e
    obtain ⟨y, hy, rfl⟩ := List.mem_map.1 hx
    exact h.1 (List.mem_map.2 ⟨y, hy, e⟩)
theorem storeR_length (R : Recs) : ∀ (L : List (Nat × List UInt8)), R.length ≤ (storeR R L).length
  | [] => Nat.le_refl _
  | (i, d) :: L => Nat.le_trans (by rw [putR_length]; omega) (storeR_length (putR R i d) L)
theorem storeR_get (z : List UInt8) : ∀ (R : Recs) (ids : List Nat) (i : Nat), (storeR R (ids.map fun j => (j, z))).getD i none = if i ∈ ids then some z else R.getD i none
  | R, [], i => by simp [storeR]
  | R, j :: ids, i => by
    show (storeR (putR R j z) (ids.map fun j => (j, z))).getD i none = _
    rw [storeR_get z (putR R j z) ids i, putR_get]
    by_cases h1 : i ∈ ids
    · rw [if_pos h1, if_pos (List.mem_cons_of_mem _ h1)]
    · rw [if_neg h1]
      by_cases h2 : i = j
      · rw [if_pos h2, if_pos (by rw [h2]; exact List.mem_cons_self)]
      · rw [if_neg h2, if_neg (by simp [h1, h2])]
/-- the least id from k on that isn't in use -/
def nextFree (R : Recs) (k : Nat) : Nat := k + lowest (R.drop k)
theorem nextFree_ge (R : Recs) (k : Nat) : k ≤ nextFree R k := Nat.le_add_right _ _
theorem getD_drop' (R : Recs) (k i : Nat) : (R.drop k).getD i none = R.getD (k + i) none := by
  simp [List.getD_eq_getElem?_getD, List.getElem?_drop]
theorem nextFree_used (R : Recs) (k i : Nat) (h1 : k ≤ i) (h2 : i < nextFree R k) : (R.getD i none).isSome = true := by
  unfold nextFree at h2
  obtain ⟨d, hd⟩ := lowest_used (R.drop k) (i - k) (by omega)
  have := getD_drop' R k (i - k)
  rw [List.getD_eq_getElem?_getD, hd, show k + (i - k) = i by omega] at this
  rw [← this]
  rfl
theorem nextFree_free (R : Recs) (k : Nat) : R.getD (nextFree R k) none = none := by
  have := lowest_free (R.drop k)
  rw [getD_drop'] at this
  exact this
theorem nextFree_le (R : Recs) (k : Nat) : nextFree R k ≤ max k R.length := by
  have := lowest_le (R.drop k)
  rw [List.length_drop] at this
  unfold nextFree
  omega
/-- the i-th of the ids that Store takes -/
def idAt (R : Recs) : Nat → Nat
  | 0 => nextFree R 0
  | i + 1 => nextFree R (idAt R i + 1)
theorem idAt_lt (R : Recs) (i : Nat) : idAt R i < idAt R (i + 1) := nextFree_ge R (idAt R i + 1)
theorem idAt_mono (R : Recs) : ∀ {i j : Nat}, i < j → idAt R i < idAt R j
  | i, 0, h => absurd h (by omega)
  | i, j + 1, h => by
    by_cases h1 : i = j
    · rw [h1]; exact idAt_lt R j
    · exact Nat.lt_trans (idAt_mono R (by omega)) (idAt_lt R j)
theorem idAt_inj (R : Recs) {i j : Nat} (h : idAt R i = idAt R j) : i = j := by
  by_cases h1 : i < j
  · have := idAt_mono R h1; omega
  · by_cases h2 : j < i
    · have := idAt_mono R h2; omega
    · omega
theorem idAt_free (R : Recs) (i : Nat) : R.getD (idAt R i) none = none := by
  cases i with
  | zero => exact nextFree_free R 0
  | succ i => exact nextFree_free R _
/-- whatever lies below is in use, or one of them -/
theorem idAt_below (R : Recs) : ∀ (i k : Nat), k < idAt R i → (R.getD k none).isSome = true ∨ ∃ j, j < i ∧ idAt R j = k
  | 0, k, h => .inl (nextFree_used R 0 k (by omega) h)
  | i + 1, k, h => by
    by_cases h1 : idAt R i < k
    · exact .inl (nextFree_used R _ k h1 h)
    · by_cases h2 : k = idAt R i
      · exact .inr ⟨i, by omega, h2.symm⟩
      · rcases idAt_below R i k (by omega) with h3 | ⟨j, h3, h4⟩
        · exact .inl h3
        · exact .inr ⟨j, by omega, h4⟩
theorem liveN_take' (R : Recs) (k : Nat) : liveN (R.take (k + 1)) = liveN (R.take k) + (if (R.getD k none).isSome = true then 1 else 0) := by
  by_cases h : k < R.length
  · rw [take_snoc R k h, liveN_append]
    congr 1
    unfold liveN
    rw [List.getD_eq_getElem?_getD, List.getElem?_eq_getElem h, List.countP_cons]
    simp
  · rw [List.take_of_length_le (by omega), List.take_of_length_le (by omega), List.getD_eq_getElem?_getD, List.getElem?_eq_none (by omega)]
    rfl
theorem liveN_run (R : Recs) (k : Nat) : ∀ (n : Nat), (∀ i, k ≤ i → i < k + n → (R.getD i none).isSome = true) → liveN (R.take (k + n)) = liveN (R.take k) + n
  | 0, _ => rfl
  | n + 1, h => by
    rw [← Nat.add_assoc, liveN_take', liveN_run R k n fun i h1 h2 => h i h1 (by omega), if_pos (h (k + n) (by omega) (by omega))]
    omega
theorem idAt_count (R : Recs) : ∀ (i : Nat), idAt R i = liveN (R.take (idAt R i)) + i
  | 0 => by
    have := liveN_run R 0 (idAt R 0) fun i h1 h2 => nextFree_used R 0 i h1 (by rw [Nat.zero_add] at h2; exact h2)
    simp only [Nat.zero_add, List.take_zero] at this
    rw [this]
    show _ = liveN [] + _ + 0
    rw [show liveN [] = 0 from rfl]
    omega
  | i + 1 => by
    have h1 := idAt_count R i
    have h2 := idAt_lt R i
    have h3 := liveN_take' R (idAt R i)
    rw [idAt_free] at h3
    have h4 := liveN_run R (idAt R i + 1) (idAt R (i + 1) - (idAt R i + 1)) fun k h5 h6 => nextFree_used R _ k h5 (by show k < idAt R (i + 1); omega)
    rw [show idAt R i + 1 + (idAt R (i + 1) - (idAt R i + 1)) = idAt R (i + 1) by omega] at h4
    simp at h3
    omega
theorem liveN_take_le (R : Recs) (k : Nat) : liveN (R.take k) ≤ liveN R := by
  have := liveN_append (R.take k) (R.drop k)
  rw [List.take_append_drop] at this
  omega
theorem idAt_le (R : Recs) (i : Nat) : idAt R i ≤ liveN R + i := by
  have := idAt_count R i
  have := liveN_take_le R (idAt R i)
  omega
/-- the ids, and the records while they are being taken -/
def ids (R : Recs) (n : Nat) : List Nat := (List.range n).map (idAt R)
theorem ids_succ (R : Recs) (n : Nat) : ids R (n + 1) = ids R n ++ [idAt R n] := by unfold ids; rw [List.range_succ, List.map_append]; rfl
theorem ids_length (R : Recs) (n : Nat) : (ids R n).length = n := by unfold ids; simp
theorem mem_ids {R : Recs} {n k : Nat} : k ∈ ids R n ↔ ∃ j, j < n ∧ idAt R j = k := by unfold ids; simp
theorem ids_get (R : Recs) (n i : Nat) (h : i < n) : (ids R n)[i]? = some (idAt R i) := by unfold ids; simp [h]
theorem ids_nodup (R : Recs) : ∀ (n : Nat), (ids R n).Nodup
  | 0 => List.nodup_nil
  | n + 1 => by
    rw [ids_succ, List.nodup_append]
    refine ⟨ids_nodup R n, by simp, ?_⟩
    intro a ha b hb
    obtain ⟨j, hj, rfl⟩ := mem_ids.1 ha
    rw [List.mem_singleton.1 hb]
    intro e
    have := idAt_inj R e
    omega
def taken (z : List UInt8) (R : Recs) (n : Nat) : Recs := storeR R ((ids R n).map fun j => (j, z))
theorem taken_succ (z : List UInt8) (R : Recs) (n : Nat) : taken z R (n + 1) = putR (taken z R n) (idAt R n) z := by
  unfold taken
  rw [ids_succ, List.map_append]
  exact storeR_snoc _ _ _ _
theorem taken_get (z : List UInt8) (R : Recs) (n i : Nat) : (taken z R n).getD i none = if i ∈ ids R n then some z else R.getD i none := storeR_get z R _ i
/-- the lowest free record is the next of the ids -/
theorem lowest_taken (z : List UInt8) (R : Recs) (n : Nat) : lowest (taken z R n) = idAt R n := by
  refine lowest_eq (fun i hi => ?_) ?_
  · have h1 : ((taken z R n).getD i none).isSome = true := by
      rw [taken_get]
      rcases idAt_below R n i hi with h | ⟨j, h1, h2⟩
      · by_cases h2 : i ∈ ids R n
        · rw [if_pos h2]; rfl
        · rw [if_neg h2]; exact h
      · rw [if_pos (mem_ids.2 ⟨j, h1, h2⟩)]; rfl
    rw [List.getD_eq_getElem?_getD] at h1
    cases h3 : (taken z R n)[i]? with
    | none => rw [h3] at h1; cases h1
    | some o =>
      rw [h3] at h1
      cases o with
      | none => cases h1
      | some d => exact ⟨d, rfl⟩
  · rw [taken_get, if_neg, idAt_free]
    intro h
    obtain ⟨j, h1, h2⟩ := mem_ids.1 h
    have := idAt_inj R h2
    omega
theorem liveN_taken (z : List UInt8) (R : Recs) : ∀ (n : Nat), liveN (taken z R n) = liveN R + n
  | 0 => rfl
  | n + 1 => by
    have h1 := liveN_put (taken z R n) (idAt R n) z
    have h2 := lowest_free (taken z R n)
    rw [lowest_taken] at h2
    rw [h2] at h1
    rw [taken_succ]
    have := liveN_taken z R n
    simp at h1
    omega
/-- a block's bytes: it begins a chain? the bytes that it holds, the next one's id and one (nought: none) -/
def blkB (st us nx : Nat) (p : List UInt8) : List UInt8 := by8 1 st ++ (by8 1 us ++ (by8 4 nx ++ (p ++ List.replicate (25 - p.length) 0)))
theorem blkB_length (st us nx : Nat) (p : List UInt8) (h : p.length ≤ 25) : (blkB st us nx p).length = 31 := by
  unfold blkB
  simp only [List.length_append, by8_length, List.length_replicate]
  omega
/-- how many blocks -/
def nBlk (n : Nat) : Nat := max 1 ((n + 24) / 25)
def partI (l : List UInt8) (i : Nat) : List UInt8 := (l.drop (25 * i)).take 25
theorem partI_length (l : List UInt8) (i : Nat) : (partI l i).length = min 25 (l.length - 25 * i) := by unfold partI; rw [List.length_take, List.length_drop]
/-- the i-th block's record -/
def recI (R : Recs) (l : List UInt8) (n i : Nat) : List UInt8 := blkB (if i = 0 then 1 else 0) (partI l i).length (if i + 1 < n then idAt R (i + 1) + 1 else 0) (partI l i)
theorem recI_length (R : Recs) (l : List UInt8) (n i : Nat) : (recI R l n i).length = 31 := blkB_length _ _ _ _ (by rw [partI_length]; omega)
/-- the records behind Store -/
def putL (R : Recs) (l : List UInt8) (n k : Nat) : List (Nat × List UInt8) := (List.range k).map fun i => (idAt R i, recI R l n i)
theorem putL_succ (R : Recs) (l : List UInt8) (n k : Nat) : putL R l n (k + 1) = putL R l n k ++ [(idAt R k, recI R l n k)] := by unfold putL; rw [List.range_succ, List.map_append]; rfl
theorem putL_fst (R : Recs) (l : List UInt8) (n k : Nat) : (putL R l n k).map Prod.fst = ids R k := by unfold putL ids; rw [List.map_map]; rfl
def stR (R : Recs) (l : List UInt8) : Recs := storeR R (putL R l (nBlk l.length) (nBlk l.length))
/-- the program takes all first -/
theorem stR_taken (z : List UInt8) (R : Recs) (l : List UInt8) : storeR (taken z R (nBlk l.length)) (putL R l (nBlk l.length) (nBlk l.length)) = stR R l := by
  have h := storeR_two z R (putL R l (nBlk l.length) (nBlk l.length)) (by rw [putL_fst]; exact ids_nodup R _)
  unfold taken
  rw [← putL_fst R l (nBlk l.length), List.map_map]
  exact h
theorem liveN_over (R : Recs) (i : Nat) (d : List UInt8) (h : (R.getD i none).isSome = true) : liveN (putR R i d) = liveN R := by
  have := liveN_put R i d
  rw [if_pos h] at this
  omega
theorem storeR_used : ∀ (R : Recs) (L : List (Nat × List UInt8)) (i : Nat), (R.getD i none).isSome = true → ((storeR R L).getD i none).isSome = true
  | _, [], _, h => h
  | R, (j, d) :: L, i, h => storeR_used (putR R j d) L i (by
    rw [putR_get]
    by_cases h1 : i = j
    · rw [if_pos h1]; rfl
    · rw [if_neg h1]; exact h)
theorem liveN_storeR : ∀ (R : Recs) (L : List (Nat × List UInt8)), (∀ x ∈ L, (R.getD x.1 none).isSome = true) → liveN (storeR R L) = liveN R
  | _, [], _ => rfl
  | R, (j, d) :: L, h => by
    show liveN (storeR (putR R j d) L) = _
    rw [liveN_storeR (putR R j d) L fun x hx => ?_, liveN_over R j d (h (j, d) List.mem_cons_self)]
    rw [putR_get]
    by_cases h1 : x.1 = j
    · rw [if_pos h1]; rfl
    · rw [if_neg h1]; exact h x (List.mem_cons_of_mem _ hx)
theorem liveN_stR (R : Recs) (l : List UInt8) : liveN (stR R l) = liveN R + nBlk l.length := by
  rw [← stR_taken [] R l, liveN_storeR, liveN_taken]
  intro x hx
  rw [taken_get, if_pos]
  · rfl
  · rw [← putL_fst R l (nBlk l.length)]; exact List.mem_map.2 ⟨x, hx, rfl⟩
end Go.Proofs.YtkcipbjikimlfaaDoor
