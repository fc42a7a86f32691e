/- Blocks: the plain law: a block's bytes, the free ids, what Store leaves. No program. -/
import Derived.Test.YtlckhfjkdahfpaaDoorRfP
namespace Go.Proofs.YtlckhfjkdahfpaaDoor

theorem recs_ext {R S : Recs} (hl : R.length = S.length) (h : ∀ i, R.getD i none = S.getD i none) : R = S := by
  refine List.ext_getElem hl fun i h1 h2 => ?_
  have := h i
  simpa [List.getD_eq_getElem?_getD, List.getElem?_eq_getElem h1, List.getElem?_eq_getElem h2] using this
theorem putR_twice (R : Recs) (i : Nat) (d e : List UInt8) : putR (putR R i d) i e = putR R i e := by
  refine recs_ext (by rw [putR_length, putR_length, putR_length]; omega) fun j => ?_
  rw [putR_get, putR_get, putR_get]
  by_cases h : j = i
  · rw [if_pos h, if_pos h]
  · rw [if_neg h, if_neg h, if_neg h]
theorem putR_comm (R : Recs) {i j : Nat} (h : i ≠ j) (d e : List UInt8) : putR (putR R i d) j e = putR (putR R j e) i d := by
  refine recs_ext (by rw [putR_length, putR_length, putR_length, putR_length]; omega) fun k => ?_
  rw [putR_get, putR_get, putR_get, putR_get]
  by_cases h1 : k = j
  · rw [if_pos h1, if_neg (by omega), if_pos h1]
  · rw [if_neg h1]
    by_cases h2 : k = i
    · rw [if_pos h2, if_pos h2]
    · rw [if_neg h2, if_neg h2, if_neg h1]
/-- records are laid down -/
def storeR (R : Recs) : List (Nat × List UInt8) → Recs
  | [] => R
  | (i, d) :: L => storeR (putR R i d) L
theorem storeR_snoc : ∀ (R : Recs) (L : List (Nat × List UInt8)) (i : Nat) (d : List UInt8), storeR R (L ++ [(i, d)]) = putR (storeR R L) i d
  | _, [], _, _ => rfl
  | R, (j, e) :: L, i, d => storeR_snoc (putR R j e) L i d
theorem storeR_over : ∀ (R : Recs) (L : List (Nat × List UInt8)) (i : Nat) (d e : List UInt8), (∀ x ∈ L, x.1 ≠ i) → putR (storeR (putR R i d) L) i e = storeR (putR R i e) L
  | R, [], i, d, e, _ => putR_twice R i d e
  | R, (j, f) :: L, i, d, e, h => by
    have hj : j ≠ i := h (j, f) List.mem_cons_self
    show putR (storeR (putR (putR R i d) j f) L) i e = storeR (putR (putR R i e) j f) L
    rw [putR_comm R (Ne.symm hj), storeR_over (putR R j f) L i d e fun x hx => h x (List.mem_cons_of_mem _ hx), putR_comm R (Ne.symm hj)]
/-- what was laid first is laid over -/
theorem storeR_two (z : List UInt8) : ∀ (R : Recs) (L : List (Nat × List UInt8)), (L.map Prod.fst).Nodup → storeR (storeR R (L.map fun x => (x.1, z))) L = storeR R L
  | _, [], _ => rfl
  | R, (i, d) :: L, h => by
    rw [List.map_cons, List.nodup_cons] at h
    show storeR (putR (storeR (putR R i z) (L.map fun x => (x.1, z))) i d) L = storeR (putR R i d) L
    rw [storeR_over R (L.map fun x => (x.1, z)) i z d ?_, storeR_two z (putR R i d) L h.2]
    intro x hx e
    obtain ⟨y, hy, rfl⟩ := List.mem_map.1 hx
    exact h.1 (List.mem_map.2 ⟨y, hy, e⟩)
theorem storeR_length (R : Recs) : ∀ (L : List (Nat × List UInt8)), R.length ≤ (storeR R L).length
  | [] => Nat.le_refl _
  | (i, d) :: L => Nat.le_trans (by rw [putR_length]; omega) (storeR_length (putR R i d) L)
theorem storeR_get (z : List UInt8) : ∀ (R : Recs) (ids : List Nat) (i : Nat), (storeR R (ids.map fun j => (j, z))).getD i none = if i ∈ ids then some z else R.getD i none
  | R, [], i => by simp [storeR]
  | R, j :: ids, i => by
    show (storeR (putR R j z) (ids.map fun j => (j, z))).getD i none = _
    rw [storeR_get z (putR R j z) ids i, putR_get]
    by_cases h1 : i ∈ ids
    · rw [if_pos h1, if_pos (List.mem_cons_of_mem _ h1)]
    · rw [if_neg h1]
      by_cases h2 : i = j
      · rw [if_pos h2, if_pos (by rw [h2]; exact List.mem_cons_self)]
      · rw [if_neg h2, if_neg (by simp [h1, h2])]
/-- the least id from k on that isn't in use -/
def nextFree (R : Recs) (k : Nat) : Nat := k + lowest (R.drop k)
theorem nextFree_ge (R : Recs) (k : Nat) : k ≤ nextFree R k := Nat.le_add_right _ _
theorem getD_drop' (R : Recs) (k i : Nat) : (R.drop k).getD i none = R.getD (k + i) none := by
  simp [List.getD_eq_getElem?_getD, List.getElem?_drop]
theorem nextFree_used (R : Recs) (k i : Nat) (h1 : k ≤ i) (h2 : i < nextFree R k) : (R.getD i none).isSome = true := by
  unfold nextFree at h2
  obtain ⟨d, hd⟩ := lowest_used (R.drop k) (i - k) (by omega)
  have := getD_drop' R k (i - k)
  rw [List.getD_eq_getElem?_getD, hd, show k + (i - k) = i by omega] at this
  rw [← this]
  rfl
theorem nextFree_free (R : Recs) (k : Nat) : R.getD (nextFree R k) none = none := by
  have := lowest_free (R.drop k)
  rw [getD_drop'] at this
  exact this
theorem nextFree_le (R : Recs) (k : Nat) : nextFree R k ≤ max k R.length := by
  have := lowest_le (R.drop k)
  rw [List.length_drop] at this
  unfold nextFree
  omega
/-- the i-th of the ids that Store takes -/
def idAt (R : Recs) : Nat → Nat
  | 0 => nextFree R 0
  | i + 1 => nextFree R (idAt R i + 1)
theorem idAt_lt (R : Recs) (i : Nat) : idAt R i < idAt R (i + 1) := nextFree_ge R (idAt R i + 1)
theorem idAt_mono (R : Recs) : ∀ {i j : Nat}, i < j → idAt R i < idAt R j
  | i, 0, h => absurd h (by omega)
  | i, j + 1, h => by
    by_cases h1 : i = j
    · rw [h1]; exact idAt_lt R j
    · exact Nat.lt_trans (idAt_mono R (by omega)) (idAt_lt R j)
theorem idAt_inj (R : Recs) {i j : Nat} (h : idAt R i = idAt R j) : i = j := by
  by_cases h1 : i < j
  · have := idAt_mono R h1; omega
  · by_cases h2 : j < i
    · have := idAt_mono R h2; omega
    · omega
theorem idAt_free (R : Recs) (i : Nat) : R.getD (idAt R i) none = none := by
  cases i with
  | zero => exact nextFree_free R 0
  | succ i => exact nextFree_free R _
/-- whatever lies below is in use, or one of them -/
theorem idAt_below (R : Recs) : ∀ (i k : Nat), k < idAt R i → (R.getD k none).isSome = true ∨ ∃ j, j < i ∧ idAt R j = k
  | 0, k, h => .inl (nextFree_used R 0 k (by omega) h)
  | i + 1, k, h => by
    by_cases h1 : idAt R i < k
    · exact .inl (nextFree_used R _ k h1 h)
    · by_cases h2 : k = idAt R i
      · exact .inr ⟨i, by omega, h2.symm⟩
      · rcases idAt_below R i k (by omega) with h3 | ⟨j, h3, h4⟩
        · exact .inl h3
        · exact .inr ⟨j, by omega, h4⟩
theorem liveN_take' (R : Recs) (k : Nat) : liveN (R.take (k + 1)) = liveN (R.take k) + (if (R.getD k none).isSome = true then 1 else 0) := by
  by_cases h : k < R.length
  · rw [take_snoc R k h, liveN_append]
    congr 1
    unfold liveN
    rw [List.getD_eq_getElem?_getD, List.getElem?_eq_getElem h, List.countP_cons]
    simp
  · rw [List.take_of_length_le (by omega), List.take_of_length_le (by omega), List.getD_eq_getElem?_getD, List.getElem?_eq_none (by omega)]
    rfl
theorem liveN_run (R : Recs) (k : Nat) : ∀ (n : Nat), (∀ i, k ≤ i → i < k + n → (R.getD i none).isSome = true) → liveN (R.take (k + n)) = liveN (R.take k) + n
  | 0, _ => rfl
  | n + 1, h => by
    rw [← Nat.add_assoc, liveN_take', liveN_run R k n fun i h1 h2 => h i h1 (by omega), if_pos (h (k + n) (by omega) (by omega))]
    omega
theorem idAt_count (R : Recs) : ∀ (i : Nat), idAt R i = liveN (R.take (idAt R i)) + i
  | 0 => by
    have := liveN_run R 0 (idAt R 0) fun i h1 h2 => nextFree_used R 0 i h1 (by rw [Nat.zero_add] at h2; exact h2)
    simp only [Nat.zero_add, List.take_zero] at this
    rw [this]
    show _ = liveN [] + _ + 0
    rw [show liveN [] = 0 from rfl]
    omega
  | i + 1 => by
    have h1 := idAt_count R i
    have h2 := idAt_lt R i
    have h3 := liveN_take' R (idAt R i)
    rw [idAt_free] at h3
    have h4 := liveN_run R (idAt R i + 1) (idAt R (i + 1) - (idAt R i + 1)) fun k h5 h6 => nextFree_used R _ k h5 (by show k < idAt R (i + 1); omega)
    rw [show idAt R i + 1 + (idAt R (i + 1) - (idAt R i + 1)) = idAt R (i + 1) by omega] at h4
    simp at h3
    omega
theorem liveN_take_le (R : Recs) (k : Nat) : liveN (R.take k) ≤ liveN R := by
  have := liveN_append (R.take k) (R.drop k)
  rw [List.take_append_drop] at this
  omega
theorem idAt_le (R : Recs) (i : Nat) : idAt R i ≤ liveN R + i := by
  have := idAt_count R i
  have := liveN_take_le R (idAt R i)
  omega
/-- the ids, and the records while they are being taken -/
def ids (R : Recs) (n : Nat) : List Nat := (List.range n).map (idAt R)
theorem ids_succ (R : Recs) (n : Nat) : ids R (n + 1) = ids R n ++ [idAt R n] := by unfold ids; rw [List.range_succ, List.map_append]; rfl
theorem ids_length (R : Recs) (n : Nat) : (ids R n).length = n := by unfold ids; simp
theorem mem_ids {R : Recs} {n k : Nat} : k ∈ ids R n ↔ ∃ j, j < n ∧ idAt R j = k := by unfold ids; simp
theorem ids_get (R : Recs) (n i : Nat) (h : i < n) : (ids R n)[i]? = some (idAt R i) := by unfold ids; simp [h]
theorem ids_nodup (R : Recs) : ∀ (n : Nat), (ids R n).Nodup
  | 0 => List.nodup_nil
  | n + 1 => by
    rw [ids_succ, List.nodup_append]
    refine ⟨ids_nodup R n, by simp, ?_⟩
    intro a ha b hb
    obtain ⟨j, hj, rfl⟩ := mem_ids.1 ha
    rw [List.mem_singleton.1 hb]
    intro e
    have := idAt_inj R e
    omega
def taken (z : List UInt8) (R : Recs) (n : Nat) : Recs := storeR R ((ids R n).map fun j => (j, z))
theorem taken_succ (z : List UInt8) (R : Recs) (n : Nat) : taken z R (n + 1) = putR (taken z R n) (idAt R n) z := by
  unfold taken
  rw [ids_succ, List.map_append]
  exact storeR_snoc _ _ _ _
theorem taken_get (z : List UInt8) (R : Recs) (n i : Nat) : (taken z R n).getD i none = if i ∈ ids R n then some z else R.getD i none := storeR_get z R _ i
/-- the lowest free record is the next of the ids -/
theorem lowest_taken (z : List UInt8) (R : Recs) (n : Nat) : lowest (taken z R n) = idAt R n := by
  refine lowest_eq (fun i hi => ?_) ?_
  · have h1 : ((taken z R n).getD i none).isSome = true := by
      rw [taken_get]
      rcases idAt_below R n i hi with h | ⟨j, h1, h2⟩
      · by_cases h2 : i ∈ ids R n
        · rw [if_pos h2]; rfl
        · rw [if_neg h2]; exact h
      · rw [if_pos (mem_ids.2 ⟨j, h1, h2⟩)]; rfl
    rw [List.getD_eq_getElem?_getD] at h1
    cases h3 : (taken z R n)[i]? with
    | none => rw [h3] at h1; cases h1
    | some o =>
      rw [h3] at h1
      cases o with
      | none => cases h1
      | some d => exact ⟨d, rfl⟩
  · rw [taken_get, if_neg, idAt_free]
    intro h
    obtain ⟨j, h1, h2⟩ := mem_ids.1 h
    have := idAt_inj R h2
    omega
theorem liveN_taken (z : List UInt8) (R : Recs) : ∀ (n : Nat), liveN (taken z R n) = liveN R + n
  | 0 => rfl
  | n + 1 => by
    have h1 := liveN_put (taken z R n) (idAt R n) z
    have h2 := lowest_free (taken z R n)
    rw [lowest_taken] at h2
    rw [h2] at h1
    rw [taken_succ]
    have := liveN_taken z R n
    simp at h1
    omega
/-- a block's bytes: it begins a chain? the bytes that it holds, the next one's id and one (nought: none) -/
def blkB (st us nx : Nat) (p : List UInt8) : List UInt8 := by8 1 st ++ (by8 1 us ++ (by8 4 nx ++ (p ++ List.replicate (25 - p.length) 0)))
theorem blkB_length (st us nx : Nat) (p : List UInt8) (h : p.length ≤ 25) : (blkB st us nx p).length = 31 := by
  unfold blkB
  simp only [List.length_append, by8_length, List.length_replicate]
  omega
/-- how many blocks -/
def nBlk (n : Nat) : Nat := max 1 ((n + 24) / 25)
def partI (l : List UInt8) (i : Nat) : List UInt8 := (l.drop (25 * i)).take 25
theorem partI_length (l : List UInt8) (i : Nat) : (partI l i).length = min 25 (l.length - 25 * i) := by unfold partI; rw [List.length_take, List.length_drop]
/-- the i-th block's record -/
def recI (R : Recs) (l : List UInt8) (n i : Nat) : List UInt8 := blkB (if i = 0 then 1 else 0) (partI l i).length (if i + 1 < n then idAt R (i + 1) + 1 else 0) (partI l i)
theorem recI_length (R : Recs) (l : List UInt8) (n i : Nat) : (recI R l n i).length = 31 := blkB_length _ _ _ _ (by rw [partI_length]; omega)
/-- the records behind Store -/
def putL (R : Recs) (l : List UInt8) (n k : Nat) : List (Nat × List UInt8) := (List.range k).map fun i => (idAt R i, recI R l n i)
theorem putL_succ (R : Recs) (l : List UInt8) (n k : Nat) : putL R l n (k + 1) = putL R l n k ++ [(idAt R k, recI R l n k)] := by unfold putL; rw [List.range_succ, List.map_append]; rfl
theorem putL_fst (R : Recs) (l : List UInt8) (n k : Nat) : (putL R l n k).map Prod.fst = ids R k := by unfold putL ids; rw [List.map_map]; rfl
def stR (R : Recs) (l : List UInt8) : Recs := storeR R (putL R l (nBlk l.length) (nBlk l.length))
/-- the program takes all first -/
theorem stR_taken (z : List UInt8) (R : Recs) (l : List UInt8) : storeR (taken z R (nBlk l.length)) (putL R l (nBlk l.length) (nBlk l.length)) = stR R l := by
  have h := storeR_two z R (putL R l (nBlk l.length) (nBlk l.length)) (by rw [putL_fst]; exact ids_nodup R _)
  unfold taken
  rw [← putL_fst R l (nBlk l.length), List.map_map]
  exact h
theorem liveN_over (R : Recs) (i : Nat) (d : List UInt8) (h : (R.getD i none).isSome = true) : liveN (putR R i d) = liveN R := by
  have := liveN_put R i d
  rw [if_pos h] at this
  omega
theorem storeR_used : ∀ (R : Recs) (L : List (Nat × List UInt8)) (i : Nat), (R.getD i none).isSome = true → ((storeR R L).getD i none).isSome = true
  | _, [], _, h => h
  | R, (j, d) :: L, i, h => storeR_used (putR R j d) L i (by
    rw [putR_get]
    by_cases h1 : i = j
    · rw [if_pos h1]; rfl
    · rw [if_neg h1]; exact h)
theorem liveN_storeR : ∀ (R : Recs) (L : List (Nat × List UInt8)), (∀ x ∈ L, (R.getD x.1 none).isSome = true) → liveN (storeR R L) = liveN R
  | _, [], _ => rfl
  | R, (j, d) :: L, h => by
    show liveN (storeR (putR R j d) L) = _
    rw [liveN_storeR (putR R j d) L fun x hx => ?_, liveN_over R j d (h (j, d) List.mem_cons_self)]
    rw [putR_get]
    by_cases h1 : x.1 = j
    · rw [if_pos h1]; rfl
    · rw [if_neg h1]; exact h x (List.mem_cons_of_mem _ hx)
theorem liveN_stR (R : Recs) (l : List UInt8) : liveN (stR R l) = liveN R + nBlk l.length := by
  rw [← stR_taken [] R l, liveN_storeR, liveN_taken]
  intro x hx
  rw [taken_get, if_pos]
  · rfl
  · rw [← putL_fst R l (nBlk l.length)]; exact List.mem_map.2 ⟨x, hx, rfl⟩
end Go.Proofs.YtlckhfjkdahfpaaDoor

/- Tokens: plain law: good names; a table's names by their numbers. No program. -/
namespace Go.Proofs.YtlckhfjkdahfpaaDoor
open Go.RowKit Go.Maps

/-! good names -/
def digB (c : UInt8) : Bool := decide (48 ≤ c.toNat ∧ c.toNat ≤ 57)
def chB (c : UInt8) : Bool := decide (97 ≤ c.toNat ∧ c.toNat ≤ 122) || (decide (65 ≤ c.toNat ∧ c.toNat ≤ 90) || (digB c || decide (c.toNat = 95)))
def goodB (s : List UInt8) : Bool := decide (1 ≤ s.length) && (decide (s.length ≤ 40) && (!digB (s.getD 0 0) && s.all chB))
/-- the document's letters -/
def lettersN : List Nat := (List.range 26).map (· + 97) ++ ((List.range 26).map (· + 65) ++ (95 :: (List.range 10).map (· + 48)))
theorem lettersN_length : lettersN.length = 63 := by decide
/-- the place of a letter; 63: none -/
def atL (c : Nat) : Nat := lettersN.idxOf c
theorem atL_le (c : Nat) : atL c ≤ 63 := by
  have := List.idxOf_le_length (a := c) (l := lettersN)
  rw [lettersN_length] at this
  exact this
theorem atL_all : ∀ n : Nat, n < 256 → (decide (atL n = 63) = !(decide (97 ≤ n ∧ n ≤ 122) || (decide (65 ≤ n ∧ n ≤ 90) || (decide (48 ≤ n ∧ n ≤ 57) || decide (n = 95))))) ∧ (atL n ≠ 63 → decide (52 < atL n) = decide (48 ≤ n ∧ n ≤ 57)) := by decide +kernel
theorem atL_ch (c : UInt8) : decide (atL c.toNat = 63) = !chB c := (atL_all c.toNat c.toNat_lt).1
theorem atL_dig {c : UInt8} (h : chB c = true) : decide (52 < atL c.toNat) = digB c := (atL_all c.toNat c.toNat_lt).2 fun e => by
  have := atL_ch c
  rw [h, decide_eq_true e] at this
  cases this
/-! names by their numbers -/
abbrev Nms := List (List UInt8)
def nameN (N : Nms) (id : Int) : List UInt8 := if id < 0 then [] else N.getD id.toNat []
def findN (N : Nms) (s : List UInt8) : Option Nat := if s = [] then none else N.findIdx? (fun x => x == s)
def lenN (N : Nms) : Nat := N.countP fun x => x != []
/-- the least number without a name -/
def lowN (N : Nms) : Nat := N.findIdx (fun x => x == [])
def setN (N : Nms) (id : Nat) (s : List UInt8) : Nms := (if id = N.length then N ++ [[]] else N).set id s
def internE (N : Nms) (s : List UInt8) : Int := if goodB s = false then 60 else if (findN N s).isSome then 0 else if 200 ≤ lenN N then 66 else 0
def internI (N : Nms) (s : List UInt8) : Nat := if goodB s = false then 0 else match findN N s with | some i => i | none => if 200 ≤ lenN N then 0 else lowN N
def internS (N : Nms) (s : List UInt8) : Nms := if goodB s = false then N else match findN N s with | some _ => N | none => if 200 ≤ lenN N then N else setN N (lowN N) s
def forgetE (N : Nms) (id : Int) : Int := if nameN N id = [] then 3 else 0
def forgetS (N : Nms) (id : Int) : Nms := if nameN N id = [] then N else N.set id.toNat []
/-- the record of a name -/
def recT (s : List UInt8) : Option (List UInt8) := if s = [] then none else some (UInt8.ofNat s.length :: (s ++ List.replicate (40 - s.length) 0))
def recsT (N : Nms) : Recs := N.map recT
/-- what a table's names are always -/
structure NOk (N : Nms) : Prop where
  good : ∀ s ∈ N, s ≠ [] → goodB s = true
  inj : ∀ i j, i < N.length → j < N.length → N.getD i [] = N.getD j [] → N.getD i [] ≠ [] → i = j
  len : N.length ≤ 200
theorem getD_ne {N : Nms} {i : Nat} (h : N.getD i [] ≠ []) : i < N.length := by
  by_cases hi : i < N.length
  · exact hi
  · rw [List.getD_eq_getElem?_getD, List.getElem?_eq_none (by omega)] at h
    exact absurd rfl h
theorem findN_some {N : Nms} {s : List UInt8} {i : Nat} (h : findN N s = some i) : s ≠ [] ∧ N.getD i [] = s := by
  unfold findN at h
  split at h
  · cases h
  · rename_i hs
    obtain ⟨h1, h2, -⟩ := List.findIdx?_eq_some_iff_getElem.1 h
    refine ⟨hs, ?_⟩
    rw [List.getD_eq_getElem?_getD, List.getElem?_eq_getElem h1]
    simpa using h2
theorem findN_none {N : Nms} {s : List UInt8} (h : findN N s = none) (hs : s ≠ []) (i : Nat) : N.getD i [] ≠ s := by
  intro e
  unfold findN at h
  rw [if_neg hs] at h
  have hi := getD_ne (e ▸ hs : N.getD i [] ≠ [])
  have h1 := List.findIdx?_eq_none_iff.1 h (N.getD i []) (by rw [List.getD_eq_getElem?_getD, List.getElem?_eq_getElem hi]; exact List.getElem_mem hi)
  rw [e] at h1
  simp at h1
theorem findN_iff {N : Nms} (hN : NOk N) {s : List UInt8} {i : Nat} : findN N s = some i ↔ s ≠ [] ∧ N.getD i [] = s := by
  refine ⟨findN_some, fun ⟨hs, hi⟩ => ?_⟩
  cases hf : findN N s with
  | none => exact absurd hi (findN_none hf hs i)
  | some j =>
    have hj := (findN_some hf).2
    rw [hN.inj j i (getD_ne (hj ▸ hs)) (getD_ne (hi ▸ hs)) (hj.trans hi.symm) (hj ▸ hs)]
theorem lowN_le (N : Nms) : lowN N ≤ N.length := List.findIdx_le_length
theorem lowN_used {N : Nms} {i : Nat} (h : i < lowN N) : N.getD i [] ≠ [] := by
  have hi : i < N.length := Nat.lt_of_lt_of_le h (lowN_le N)
  have := List.not_of_lt_findIdx h
  rw [List.getD_eq_getElem?_getD, List.getElem?_eq_getElem hi]
  simpa using this
theorem lowN_free (N : Nms) : N.getD (lowN N) [] = [] := by
  by_cases h : lowN N < N.length
  · have h1 : (N[lowN N]'h == []) = true := List.findIdx_getElem (p := fun x => x == []) (w := h)
    rw [List.getD_eq_getElem?_getD, List.getElem?_eq_getElem h]
    exact beq_iff_eq.1 h1
  · rw [List.getD_eq_getElem?_getD, List.getElem?_eq_none (by omega)]
    rfl
theorem setN_length {N : Nms} {k : Nat} (h : k ≤ N.length) (s : List UInt8) : (setN N k s).length = max N.length (k + 1) := by
  unfold setN
  rw [List.length_set]
  split
  · rw [List.length_append]; simp; omega
  · omega
theorem setN_get {N : Nms} {k : Nat} (h : k ≤ N.length) (s : List UInt8) (i : Nat) : (setN N k s).getD i [] = if i = k then s else N.getD i [] := by
  unfold setN
  by_cases hk : k = N.length
  · rw [if_pos hk]
    by_cases hi : i = k
    · rw [if_pos hi, hi, List.getD_eq_getElem?_getD, List.getElem?_set_self (by simp; omega)]
      rfl
    · rw [if_neg hi, List.getD_eq_getElem?_getD, List.getElem?_set_ne (Ne.symm hi), List.getD_eq_getElem?_getD]
      by_cases h2 : i < N.length
      · rw [List.getElem?_append_left h2]
      · rw [List.getElem?_eq_none (by simp; omega), List.getElem?_eq_none (by omega)]
  · rw [if_neg hk]
    by_cases hi : i = k
    · rw [if_pos hi, hi, List.getD_eq_getElem?_getD, List.getElem?_set_self (by omega)]
      rfl
    · rw [if_neg hi, List.getD_eq_getElem?_getD, List.getElem?_set_ne (Ne.symm hi), List.getD_eq_getElem?_getD]
theorem lenN_live (N : Nms) : lenN N = liveN (recsT N) := by
  unfold lenN liveN recsT
  rw [List.countP_map]
  apply List.countP_congr
  intro x _
  show (x != []) = true ↔ (recT x).isSome = true
  unfold recT
  by_cases h : x = []
  · rw [if_pos h, h]; simp
  · rw [if_neg h]; simpa using h
theorem recsT_get (N : Nms) (i : Nat) : (recsT N).getD i none = recT (N.getD i []) := by
  unfold recsT
  rw [List.getD_eq_getElem?_getD, List.getD_eq_getElem?_getD, List.getElem?_map]
  cases N[i]? with
  | none => rfl
  | some x => rfl
theorem recT_some (s : List UInt8) : (recT s).isSome = (s != []) := by
  unfold recT
  by_cases h : s = []
  · rw [if_pos h, h]; rfl
  · rw [if_neg h]
    exact (bne_iff_ne.2 h).symm
theorem lowN_low (N : Nms) : lowest (recsT N) = lowN N := lowest_eq (fun i hi => by
    have h1 := lowN_used hi
    have hi' := getD_ne h1
    refine ⟨UInt8.ofNat (N.getD i []).length :: (N.getD i [] ++ List.replicate (40 - (N.getD i []).length) 0), ?_⟩
    have h2 := recsT_get N i
    unfold recT at h2
    rw [if_neg h1, List.getD_eq_getElem?_getD] at h2
    have h3 : i < (recsT N).length := by unfold recsT; rw [List.length_map]; exact hi'
    rw [List.getElem?_eq_getElem h3] at h2 ⊢
    exact congrArg some h2) (by rw [recsT_get, lowN_free]; rfl)
theorem recsT_put {N : Nms} {k : Nat} (h : k ≤ N.length) {s : List UInt8} (hs : s ≠ []) : putR (recsT N) k (UInt8.ofNat s.length :: (s ++ List.replicate (40 - s.length) 0)) = recsT (setN N k s) := by
  refine recs_ext ?_ fun i => ?_
  · rw [putR_length]
    unfold recsT
    rw [List.length_map, List.length_map, setN_length h]
  · rw [putR_get, recsT_get, recsT_get, setN_get h]
    by_cases hi : i = k
    · rw [if_pos hi, if_pos hi]
      unfold recT
      rw [if_neg hs]
    · rw [if_neg hi, if_neg hi]
theorem recsT_free {N : Nms} {k : Nat} : freeR (recsT N) k = recsT (N.set k []) := by
  refine recs_ext ?_ fun i => ?_
  · unfold freeR recsT
    rw [List.length_set, List.length_map, List.length_map, List.length_set]
  · rw [recsT_get]
    unfold freeR
    by_cases hi : i = k
    · subst hi
      by_cases h2 : i < N.length
      · rw [List.getD_eq_getElem?_getD, List.getElem?_set_self (by unfold recsT; simpa using h2), List.getD_eq_getElem?_getD, List.getElem?_set_self h2]
        rfl
      · rw [List.getD_eq_getElem?_getD, List.getElem?_eq_none (by unfold recsT; simp; omega), List.getD_eq_getElem?_getD, List.getElem?_eq_none (by simp; omega)]
        rfl
    · rw [List.getD_eq_getElem?_getD, List.getElem?_set_ne (Ne.symm hi), ← List.getD_eq_getElem?_getD, recsT_get, List.getD_eq_getElem?_getD, List.getD_eq_getElem?_getD, List.getElem?_set_ne (Ne.symm hi)]
theorem goodB_ne {s : List UInt8} (h : goodB s = true) : s ≠ [] ∧ s.length ≤ 40 := by
  unfold goodB at h
  simp only [Bool.and_eq_true, decide_eq_true_eq] at h
  exact ⟨List.ne_nil_of_length_pos h.1, h.2.1⟩
/-- a new name -/
theorem NOk.set {N : Nms} (hN : NOk N) {s : List UInt8} (hg : goodB s = true) (hf : findN N s = none) (hl : lenN N < 200) : NOk (setN N (lowN N) s) := by
  have hs := (goodB_ne hg).1
  have hle := lowN_le N
  refine ⟨fun x hx hx0 => ?_, fun i j _ _ e h0 => ?_, ?_⟩
  · obtain ⟨i, hi⟩ := List.mem_iff_getElem?.1 hx
    have h1 : (setN N (lowN N) s).getD i [] = x := by rw [List.getD_eq_getElem?_getD, hi]; rfl
    rw [setN_get hle] at h1
    by_cases hik : i = lowN N
    · rw [if_pos hik] at h1; rw [← h1]; exact hg
    · rw [if_neg hik] at h1
      have hi' := getD_ne (h1 ▸ hx0)
      refine hN.good x ?_ hx0
      rw [← h1, List.getD_eq_getElem?_getD, List.getElem?_eq_getElem hi']
      exact List.getElem_mem hi'
  · rw [setN_get hle, setN_get hle] at e
    rw [setN_get hle] at h0
    by_cases hi : i = lowN N
    · by_cases hj : j = lowN N
      · rw [hi, hj]
      · rw [if_pos hi, if_neg hj] at e
        exact absurd e.symm (findN_none hf hs j)
    · rw [if_neg hi] at h0 e
      by_cases hj : j = lowN N
      · rw [if_pos hj] at e
        exact absurd e (findN_none hf hs i)
      · rw [if_neg hj] at e
        exact hN.inj i j (getD_ne h0) (getD_ne (e ▸ h0)) e h0
  · rw [setN_length hle]
    by_cases h : lowN N < N.length
    · have := hN.len; omega
    · have h2 : lenN N = N.length := by
        unfold lenN
        rw [List.countP_eq_length]
        intro x hx
        obtain ⟨i, hi⟩ := List.mem_iff_getElem?.1 hx
        have hi' := (List.getElem?_eq_some_iff.1 hi).1
        have := lowN_used (N := N) (i := i) (by omega)
        rw [List.getD_eq_getElem?_getD, hi] at this
        simpa using this
      have := hN.len
      omega
theorem NOk.free {N : Nms} (hN : NOk N) (k : Nat) : NOk (N.set k []) := by
  have hget : ∀ i, (N.set k []).getD i [] = if i = k then [] else N.getD i [] := fun i => by
    by_cases hi : i = k
    · subst hi
      rw [if_pos rfl]
      by_cases h2 : i < N.length
      · rw [List.getD_eq_getElem?_getD, List.getElem?_set_self h2]; rfl
      · rw [List.getD_eq_getElem?_getD, List.getElem?_eq_none (by simp; omega)]; rfl
    · rw [if_neg hi, List.getD_eq_getElem?_getD, List.getElem?_set_ne (Ne.symm hi), List.getD_eq_getElem?_getD]
  refine ⟨fun x hx hx0 => ?_, fun i j _ _ e h0 => ?_, by rw [List.length_set]; exact hN.len⟩
  · rcases List.mem_or_eq_of_mem_set hx with h | h
    · exact hN.good x h hx0
    · exact absurd h hx0
  · rw [hget i] at h0
    rw [hget i, hget j] at e
    by_cases hi : i = k
    · rw [if_pos hi] at h0; exact absurd rfl h0
    · rw [if_neg hi] at h0 e
      by_cases hj : j = k
      · rw [if_pos hj] at e; exact absurd e h0
      · rw [if_neg hj] at e
        exact hN.inj i j (getD_ne h0) (getD_ne (e ▸ h0)) e h0
theorem free_get (N : Nms) (k i : Nat) : (N.set k []).getD i [] = if i = k then [] else N.getD i [] := by
  by_cases hi : i = k
  · subst hi
    rw [if_pos rfl]
    by_cases h2 : i < N.length
    · rw [List.getD_eq_getElem?_getD, List.getElem?_set_self h2]; rfl
    · rw [List.getD_eq_getElem?_getD, List.getElem?_eq_none (by simp; omega)]; rfl
  · rw [if_neg hi, List.getD_eq_getElem?_getD, List.getElem?_set_ne (Ne.symm hi), List.getD_eq_getElem?_getD]
theorem opt_ext {a b : Option Nat} (h : ∀ i, a = some i ↔ b = some i) : a = b := by
  cases a with
  | none =>
    cases b with
    | none => rfl
    | some j => exact absurd ((h j).2 rfl) (by simp)
  | some i => exact ((h i).1 rfl).symm
theorem findN_set {N : Nms} (hN : NOk N) {s : List UInt8} (hg : goodB s = true) (hf : findN N s = none) (hl : lenN N < 200) (x : List UInt8) : findN (setN N (lowN N) s) x = if x = s then some (lowN N) else findN N x := by
  have hs := (goodB_ne hg).1
  have hle := lowN_le N
  refine opt_ext fun i => ?_
  rw [findN_iff (hN.set hg hf hl), setN_get hle]
  by_cases hx : x = s
  · rw [if_pos hx]
    constructor
    · rintro ⟨h1, h2⟩
      by_cases hi : i = lowN N
      · rw [hi]
      · rw [if_neg hi, hx] at h2
        exact absurd h2 (findN_none hf hs i)
    · intro h
      have : i = lowN N := by simpa using h.symm
      rw [if_pos this, hx]
      exact ⟨hs, rfl⟩
  · rw [if_neg hx, findN_iff hN]
    constructor
    · rintro ⟨h1, h2⟩
      by_cases hi : i = lowN N
      · rw [if_pos hi] at h2; exact absurd h2.symm hx
      · rw [if_neg hi] at h2; exact ⟨h1, h2⟩
    · rintro ⟨h1, h2⟩
      by_cases hi : i = lowN N
      · rw [hi, lowN_free] at h2; exact absurd h2.symm h1
      · rw [if_neg hi]; exact ⟨h1, h2⟩
theorem findN_del {N : Nms} (hN : NOk N) {k : Nat} (hk : N.getD k [] ≠ []) (x : List UInt8) : findN (N.set k []) x = if x = N.getD k [] then none else findN N x := by
  refine opt_ext fun i => ?_
  rw [findN_iff (hN.free k), free_get]
  by_cases hx : x = N.getD k []
  · rw [if_pos hx]
    constructor
    · rintro ⟨h1, h2⟩
      by_cases hi : i = k
      · rw [if_pos hi] at h2; exact absurd h2.symm h1
      · rw [if_neg hi] at h2
        exact absurd (hN.inj i k (getD_ne (h2 ▸ h1)) (getD_ne hk) (h2.trans hx) (h2 ▸ h1)) hi
    · intro h; cases h
  · rw [if_neg hx, findN_iff hN]
    constructor
    · rintro ⟨h1, h2⟩
      by_cases hi : i = k
      · rw [if_pos hi] at h2; exact absurd h2.symm h1
      · rw [if_neg hi] at h2; exact ⟨h1, h2⟩
    · rintro ⟨h1, h2⟩
      by_cases hi : i = k
      · subst hi; exact absurd h2.symm hx
      · rw [if_neg hi]; exact ⟨h1, h2⟩
theorem lenN_set {N : Nms} {s : List UInt8} (hs : s ≠ []) : lenN (setN N (lowN N) s) = lenN N + 1 := by
  rw [lenN_live, lenN_live, ← recsT_put (lowN_le N) hs]
  have := liveN_put (recsT N) (lowN N) (UInt8.ofNat s.length :: (s ++ List.replicate (40 - s.length) 0))
  rw [recsT_get, lowN_free, if_neg (by unfold recT; simp)] at this
  omega
theorem lenN_del {N : Nms} {k : Nat} (hk : N.getD k [] ≠ []) : lenN (N.set k []) + 1 = lenN N := by
  rw [lenN_live, lenN_live, ← recsT_free]
  exact liveN_free (recsT N) k (by rw [recsT_get, recT_some]; exact bne_iff_ne.2 hk)
theorem lenN_le (N : Nms) : lenN N ≤ N.length := List.countP_le_length
end Go.Proofs.YtlckhfjkdahfpaaDoor

/- Tokens: plain law: the table that bytes are. No program. -/
namespace Go.Proofs.YtlckhfjkdahfpaaDoor
open Go.RowKit Go.Maps

def wrongB (kd vr : Int) : Bool := decide (kd < 1 ∨ 3 < kd ∨ (vr ≠ 1 ∧ vr ≠ 2))
/-- a record's name -/
def nmT (d : List UInt8) : List UInt8 := (d.drop 1).take (d.getD 0 0).toNat
def okT (d : List UInt8) : Bool := decide ((d.getD 0 0).toNat ≤ 40) && (!(d.drop (1 + (d.getD 0 0).toNat)).any (· != 0) && goodB (nmT d))
def nmO : Option (List UInt8) → List UInt8 := fun o => match o with | none => [] | some d => nmT d
def errT (N : Nms) : Recs → Int
  | [] => 0
  | none :: r => errT (N ++ [[]]) r
  | some d :: r => if okT d = false then 110 else if (findN N (nmT d)).isSome = true then 7 else errT (N ++ [nmT d]) r
/-- the names that bytes are, or the error's number -/
def openT (b : List UInt8) (kd vr : Int) : Except Int Nms :=
  if wrongB kd vr = true then .error 2 else match openB b with
  | .error e => .error e
  | .ok (k, v, sz, R) => if (k : Int) ≠ kd ∨ sz ≠ 42 then .error 111 else if (v : Int) ≠ vr then .error 8 else if 200 < R.length then .error 66 else if errT [] R = 0 then .ok (R.map nmO) else .error (errT [] R)
theorem findN_pad (N : Nms) (m : Nat) (s : List UInt8) : findN (N ++ List.replicate m []) s = findN N s := by
  unfold findN
  by_cases hs : s = []
  · rw [if_pos hs, if_pos hs]
  · rw [if_neg hs, if_neg hs, List.findIdx?_append]
    have : (List.replicate m ([] : List UInt8)).findIdx? (fun x => x == s) = none := by
      rw [List.findIdx?_eq_none_iff]
      intro x hx
      rw [(List.mem_replicate.1 hx).2]
      simpa using fun e => hs e
    rw [this]
    simp
theorem okT_rec {d : List UInt8} (hd : d.length = 41) (h : okT d = true) : nmT d ≠ [] ∧ goodB (nmT d) = true ∧ recT (nmT d) = some d := by
  unfold okT at h
  simp only [Bool.and_eq_true, decide_eq_true_eq, Bool.not_eq_true'] at h
  obtain ⟨hn, hz, hg⟩ := h
  have hne := (goodB_ne hg).1
  refine ⟨hne, hg, ?_⟩
  unfold recT
  rw [if_neg hne]
  congr 1
  obtain ⟨x, t, rfl⟩ : ∃ x t, d = x :: t := by
    cases d with
    | nil => cases hd
    | cons x t => exact ⟨x, t, rfl⟩
  have ht : t.length = 40 := by simpa using hd
  have e0 : (x :: t).getD 0 0 = x := rfl
  unfold nmT
  rw [e0] at hn hz ⊢
  rw [show List.drop 1 (x :: t) = t from rfl]
  rw [show 1 + x.toNat = x.toNat + 1 by omega, List.drop_succ_cons] at hz
  have hl : (t.take x.toNat).length = x.toNat := by rw [List.length_take]; omega
  rw [hl, UInt8.ofNat_toNat]
  congr 1
  have hr : t.drop x.toNat = List.replicate (40 - x.toNat) 0 := by
    rw [List.eq_replicate_iff]
    refine ⟨by rw [List.length_drop, ht], fun y hy => ?_⟩
    have := List.any_eq_false.1 hz y hy
    simpa using this
  rw [← hr, List.take_append_drop]
theorem set_pad (N : Nms) (m : Nat) (s : List UInt8) : (N ++ List.replicate (m + 1) []).set N.length s = (N ++ [s]) ++ List.replicate m [] := by
  rw [List.set_append_right _ _ (Nat.le_refl _), Nat.sub_self, List.replicate_succ, List.set_cons_zero, List.append_assoc]
  rfl
theorem pad_skip (N : Nms) (m : Nat) : N ++ List.replicate (m + 1) [] = (N ++ [[]]) ++ List.replicate m [] := by
  rw [List.replicate_succ, List.append_assoc]
  rfl
theorem pad_get (N : Nms) (m : Nat) : (N ++ List.replicate m ([] : List UInt8)).getD N.length [] = [] := by
  rw [List.getD_eq_getElem?_getD, List.getElem?_append_right (Nat.le_refl _), Nat.sub_self, List.getElem?_replicate]
  split <;> rfl
theorem setK_get {N : Nms} {k : Nat} (hk : k < N.length) (s : List UInt8) (i : Nat) : (N.set k s).getD i [] = if i = k then s else N.getD i [] := by
  by_cases hi : i = k
  · subst hi
    rw [if_pos rfl, List.getD_eq_getElem?_getD, List.getElem?_set_self hk]
    rfl
  · rw [if_neg hi, List.getD_eq_getElem?_getD, List.getElem?_set_ne (Ne.symm hi), List.getD_eq_getElem?_getD]
/-- a new name at a free number -/
theorem NOk.setK {N : Nms} (hN : NOk N) {s : List UInt8} (hg : goodB s = true) (hf : findN N s = none) {k : Nat} (hk : k < N.length) (h0 : N.getD k [] = []) : NOk (N.set k s) := by
  have hs := (goodB_ne hg).1
  refine ⟨fun x hx hx0 => ?_, fun i j _ _ e hne => ?_, by rw [List.length_set]; exact hN.len⟩
  · rcases List.mem_or_eq_of_mem_set hx with h | h
    · exact hN.good x h hx0
    · rw [h]; exact hg
  · rw [setK_get hk] at hne
    rw [setK_get hk, setK_get hk] at e
    by_cases hi : i = k
    · by_cases hj : j = k
      · rw [hi, hj]
      · rw [if_pos hi, if_neg hj] at e
        exact absurd e.symm (findN_none hf hs j)
    · rw [if_neg hi] at hne e
      by_cases hj : j = k
      · rw [if_pos hj] at e
        exact absurd e (findN_none hf hs i)
      · rw [if_neg hj] at e
        exact hN.inj i j (getD_ne hne) (getD_ne (e ▸ hne)) e hne
theorem findN_setK {N : Nms} (hN : NOk N) {s : List UInt8} (hg : goodB s = true) (hf : findN N s = none) {k : Nat} (hk : k < N.length) (h0 : N.getD k [] = []) (x : List UInt8) : findN (N.set k s) x = if x = s then some k else findN N x := by
  have hs := (goodB_ne hg).1
  refine opt_ext fun i => ?_
  rw [findN_iff (hN.setK hg hf hk h0), setK_get hk]
  by_cases hx : x = s
  · rw [if_pos hx]
    constructor
    · rintro ⟨h1, h2⟩
      by_cases hi : i = k
      · rw [hi]
      · rw [if_neg hi, hx] at h2
        exact absurd h2 (findN_none hf hs i)
    · intro h
      have : i = k := by simpa using h.symm
      rw [if_pos this, hx]
      exact ⟨hs, rfl⟩
  · rw [if_neg hx, findN_iff hN]
    constructor
    · rintro ⟨h1, h2⟩
      by_cases hi : i = k
      · rw [if_pos hi] at h2; exact absurd h2.symm hx
      · rw [if_neg hi] at h2; exact ⟨h1, h2⟩
    · rintro ⟨h1, h2⟩
      by_cases hi : i = k
      · rw [hi, h0] at h2; exact absurd h2.symm h1
      · rw [if_neg hi]; exact ⟨h1, h2⟩
theorem lenN_setK {N : Nms} {s : List UInt8} (hs : s ≠ []) {k : Nat} (hk : k < N.length) (h0 : N.getD k [] = []) : lenN (N.set k s) = lenN N + 1 := by
  have h1 := lenN_del (N := N.set k s) (k := k) (by rw [setK_get hk, if_pos rfl]; exact hs)
  rw [List.set_set] at h1
  have h2 : N.set k [] = N := by
    apply List.ext_getElem?
    intro i
    by_cases hi : i = k
    · subst hi
      rw [List.getElem?_set_self hk, List.getElem?_eq_getElem hk]
      rw [List.getD_eq_getElem?_getD, List.getElem?_eq_getElem hk] at h0
      exact congrArg some h0.symm
    · rw [List.getElem?_set_ne (Ne.symm hi)]
  rw [h2] at h1
  exact h1.symm
theorem nok_pad (n : Nat) (h : n ≤ 200) : NOk (List.replicate n ([] : List UInt8)) := by
  refine ⟨fun s hs h0 => absurd (List.mem_replicate.1 hs).2 h0, fun i j _ _ _ hne => ?_, by rw [List.length_replicate]; exact h⟩
  refine absurd ?_ hne
  rw [List.getD_eq_getElem?_getD, List.getElem?_replicate]
  split <;> rfl
/-- what has been read after k records -/
def upT (R : Recs) (k : Nat) : Nms := (R.take k).map nmO
theorem upT_length {R : Recs} {k : Nat} (h : k ≤ R.length) : (upT R k).length = k := by unfold upT; rw [List.length_map, List.length_take]; omega
theorem upT_succ {R : Recs} {k : Nat} {o : Option (List UInt8)} (h : R[k]? = some o) : upT R (k + 1) = upT R k ++ [nmO o] := by
  unfold upT
  obtain ⟨h1, h2⟩ := List.getElem?_eq_some_iff.1 h
  rw [List.take_succ_eq_append_getElem h1, List.map_append, h2]
  rfl
theorem upT_all (R : Recs) : upT R R.length = R.map nmO := by unfold upT; rw [List.take_length]
theorem errT_at {R : Recs} {k : Nat} {o : Option (List UInt8)} (h : R[k]? = some o) : errT (upT R k) (R.drop k) = match o with
    | none => errT (upT R (k + 1)) (R.drop (k + 1))
    | some d => if okT d = false then 110 else if (findN (upT R k) (nmT d)).isSome = true then 7 else errT (upT R (k + 1)) (R.drop (k + 1)) := by
  obtain ⟨h1, h2⟩ := List.getElem?_eq_some_iff.1 h
  rw [List.drop_eq_getElem_cons h1, h2]
  cases o with
  | none =>
    rw [upT_succ h]
    rfl
  | some d =>
    rw [upT_succ h]
    rfl
theorem errT_end {R : Recs} {k : Nat} (h : R.length ≤ k) (N : Nms) : errT N (R.drop k) = 0 := by
  rw [List.drop_eq_nil_of_le h]
  rfl
/-- a table that was read whole has the file's records -/
theorem errT_recs : ∀ (R : Recs) (N : Nms), (∀ d, some d ∈ R → d.length = 41) → errT N R = 0 → recsT (R.map nmO) = R
  | [], _, _, _ => rfl
  | none :: r, N, hd, h => by
    show recT [] :: recsT (r.map nmO) = _
    rw [errT_recs r (N ++ [[]]) (fun d hm => hd d (List.mem_cons_of_mem _ hm)) h]
    rfl
  | some d :: r, N, hd, h => by
    have h' : (if okT d = false then (110 : Int) else if (findN N (nmT d)).isSome = true then 7 else errT (N ++ [nmT d]) r) = 0 := h
    by_cases ho : okT d = false
    · rw [if_pos ho] at h'; cases h'
    rw [if_neg ho] at h'
    split at h'
    · cases h'
    show recT (nmT d) :: recsT (r.map nmO) = _
    rw [errT_recs r _ (fun d hm => hd d (List.mem_cons_of_mem _ hm)) h', (okT_rec (hd d (by simp)) (by simpa using ho)).2.2]
end Go.Proofs.YtlckhfjkdahfpaaDoor
