/- Blocks: plain law: what was stored is a right chain, which is loaded again; other chains stay; Check says OK again. No program. -/
import Derived.Test.YtkcipbjikimlfaaDoorMbE
namespace Go.Proofs.YtkcipbjikimlfaaDoor
open Go.RowKit Go.Maps

/-! a stored record, read again -/
theorem blkB_st (st us nx : Nat) (p : List UInt8) (h : st < 256) : pSt (blkB st us nx p) = st :=
  nm_at [] _ _ st 1 rfl (by omega)
theorem blkB_us (st us nx : Nat) (p : List UInt8) (h : us < 256) : pUs (blkB st us nx p) = us := by
  have := nm_at (by8 1 st) (by8 1 us) (by8 4 nx ++ (p ++ List.replicate (25 - p.length) 0)) us 1 rfl (by omega)
  rwa [by8_length] at this
theorem blkB_nx (st us nx : Nat) (p : List UInt8) (h : nx < 4294967296) : pNx (blkB st us nx p) = (nx : Int) - 1 := by
  have := nm_at (by8 1 st ++ by8 1 us) (by8 4 nx) (p ++ List.replicate (25 - p.length) 0) nx 4 rfl (by simpa using h)
  rw [List.length_append, by8_length, by8_length, List.append_assoc] at this
  unfold pNx blkB
  rw [this]
theorem blkB_da (st us nx : Nat) (p : List UInt8) (h : p.length ≤ 25) : pDa (blkB st us nx p) = p ++ List.replicate (25 - p.length) 0 := by
  unfold pDa blkB
  rw [← List.append_assoc, ← List.append_assoc, List.drop_left' (by simp only [List.length_append, by8_length]), List.take_of_length_le (by simp only [List.length_append, List.length_replicate]; omega)]
/-- a chain of n blocks at I that holds l -/
structure HasC (R : Recs) (l : List UInt8) (I : Nat → Nat) (n : Nat) : Prop where
  hn : n = nBlk l.length
  bl : ∀ i, i < n → R.getD (I i) none = some (blkB (if i = 0 then 1 else 0) (partI l i).length (if i + 1 < n then I (i + 1) + 1 else 0) (partI l i))
  inj : ∀ i j, i < n → j < n → I i = I j → i = j
  lt : ∀ i, i < n → I i < 65536
theorem HasC.keep {R R' : Recs} {l : List UInt8} {I : Nat → Nat} {n : Nat} (h : HasC R l I n) (hs : ∀ i, i < n → R'.getD (I i) none = R.getD (I i) none) : HasC R' l I n :=
  ⟨h.hn, fun i hi => (hs i hi).trans (h.bl i hi), h.inj, h.lt⟩
theorem HasC.pos {R : Recs} {l : List UInt8} {I : Nat → Nat} {n : Nat} (h : HasC R l I n) : 0 < n := by
  have := h.hn
  unfold nBlk at this
  omega
theorem HasC.used {R : Recs} {l : List UInt8} {I : Nat → Nat} {n : Nat} (h : HasC R l I n) {i : Nat} (hi : i < n) : usedB R (I i) = true := by
  unfold usedB
  rw [h.bl i hi]
  rfl
theorem HasC.facts {R : Recs} {l : List UInt8} {I : Nat → Nat} {n : Nat} (h : HasC R l I n) {i : Nat} (hi : i < n) : pSt (recAt R (I i)) = (if i = 0 then 1 else 0) ∧ pUs (recAt R (I i)) = (partI l i).length ∧ nxtR R (I i) = (if i + 1 < n then (I (i + 1) : Int) else -1) ∧ pDa (recAt R (I i)) = partI l i ++ List.replicate (25 - (partI l i).length) 0 := by
  have hr : recAt R (I i) = blkB (if i = 0 then 1 else 0) (partI l i).length (if i + 1 < n then I (i + 1) + 1 else 0) (partI l i) := by
    unfold recAt
    rw [h.bl i hi]
    rfl
  have hp : (partI l i).length ≤ 25 := by rw [partI_length]; omega
  unfold nxtR
  rw [hr]
  refine ⟨blkB_st _ _ _ _ (by split <;> omega), blkB_us _ _ _ _ (by omega), ?_, blkB_da _ _ _ _ hp⟩
  rw [blkB_nx _ _ _ _ (by
    split
    · rename_i h1
      have := h.lt (i + 1) h1
      omega
    · omega)]
  split <;> omega
theorem HasC.sound {R : Recs} {l : List UInt8} {I : Nat → Nat} {n : Nat} (h : HasC R l I n) {i : Nat} (hi : i < n) : sndR R (I i) = true := by
  obtain ⟨f1, f2, f3, f4⟩ := h.facts hi
  have hp : (partI l i).length = min 25 (l.length - 25 * i) := partI_length l i
  have hn := h.hn
  unfold nBlk at hn
  have hz : ((pDa (recAt R (I i))).drop (pUs (recAt R (I i)))).all (fun x => x == 0) = true := by
    rw [f2, f4, List.drop_left]
    simp
  unfold sndR
  rw [soundV_in (by rw [f1]; split <;> omega) (by rw [f2]; omega) hz, f1, f2]
  have e3 : pNx (recAt R (I i)) = nxtR R (I i) := rfl
  rw [e3, f3]
  by_cases h1 : i + 1 < n
  · rw [if_pos h1, if_neg (by omega), Bool.and_eq_true, decide_eq_true_eq]
    exact ⟨by omega, by rw [← usedB_nat]; exact h.used h1⟩
  · rw [if_neg h1, if_pos rfl, decide_eq_true_eq]
    by_cases h0 : i = 0
    · exact .inl (by rw [if_pos h0])
    · exact .inr (by omega)
theorem HasC.good {R : Recs} {l : List UInt8} {I : Nat → Nat} {n : Nat} (h : HasC R l I n) {i : Nat} (hi : i < n) : goodR R (I 0) (I i) = true := by
  unfold goodR
  rw [h.sound hi, (h.facts hi).1]
  by_cases h0 : i = 0
  · subst h0; simp
  · rw [if_neg h0, beq_eq_false_iff_ne.2 (fun e => h0 (h.inj i 0 hi h.pos e))]
    rfl
def idsI (I : Nat → Nat) (n : Nat) : List Nat := (List.range n).map I
theorem idsI_succ (I : Nat → Nat) (n : Nat) : idsI I (n + 1) = idsI I n ++ [I n] := by unfold idsI; rw [List.range_succ, List.map_append]; rfl
theorem mem_idsI {I : Nat → Nat} {n k : Nat} : k ∈ idsI I n ↔ ∃ j, j < n ∧ I j = k := by unfold idsI; simp
theorem idsI_length (I : Nat → Nat) (n : Nat) : (idsI I n).length = n := by unfold idsI; simp
theorem HasC.nodup {R : Recs} {l : List UInt8} {I : Nat → Nat} {n : Nat} (h : HasC R l I n) : ∀ m, m ≤ n → (idsI I m).Nodup
  | 0, _ => List.nodup_nil
  | m + 1, hm => by
    rw [idsI_succ, List.nodup_append]
    refine ⟨h.nodup m (by omega), by simp, fun a ha b hb e => ?_⟩
    obtain ⟨j, hj, rfl⟩ := mem_idsI.1 ha
    rw [List.mem_singleton.1 hb] at e
    have := h.inj j m (by omega) (by omega) e
    omega
theorem HasC.len {R : Recs} {l : List UInt8} {I : Nat → Nat} {n : Nat} (h : HasC R l I n) : n ≤ R.length := by
  have := nodup_le R.length (h.nodup n (Nat.le_refl _)) fun k hk => by
    obtain ⟨j, hj, rfl⟩ := mem_idsI.1 hk
    exact usedB_lt (h.used hj)
  rwa [idsI_length] at this
theorem HasC.walk {R : Recs} {l : List UInt8} {I : Nat → Nat} {n : Nat} (h : HasC R l I n) : ∀ (d i k : Nat), i + d = n → d ≤ k → walkN R (I 0) k (idsI I i) (if i < n then (I i : Int) else -1) = (idsI I n, 0)
  | 0, i, k, hd, _ => by
    obtain rfl : i = n := by omega
    rw [if_neg (by omega), walkN_end]
  | d + 1, i, k, hd, hk => by
    obtain ⟨k, rfl⟩ : ∃ k', k = k' + 1 := ⟨k - 1, by omega⟩
    have hi : i < n := by omega
    rw [if_pos hi, walkN_on (fun hm => by
      obtain ⟨j, hj, e⟩ := mem_idsI.1 hm
      have := h.inj j i (by omega) hi e
      omega) (h.good hi), (h.facts hi).2.2.1, ← idsI_succ]
    exact h.walk d (i + 1) k (by omega) (by omega)
theorem HasC.walkS {R : Recs} {l : List UInt8} {I : Nat → Nat} {n : Nat} (h : HasC R l I n) : walkS R (I 0 : Nat) = (idsI I n, 0) := by
  rw [walkS_use (h.used h.pos)]
  have := h.walk n 0 (R.length + 1) (by omega) (by have := h.len; omega)
  rw [if_pos h.pos] at this
  exact this
theorem flat_congr {f g : Nat → List UInt8} : ∀ {L : List Nat}, (∀ i ∈ L, f i = g i) → L.flatMap f = L.flatMap g
  | [], _ => rfl
  | i :: L, h => by rw [List.flatMap_cons, List.flatMap_cons, h i List.mem_cons_self, flat_congr fun j hj => h j (List.mem_cons_of_mem _ hj)]
theorem parts_all (l : List UInt8) : ∀ n, (List.range n).flatMap (partI l) = l.take (25 * n)
  | 0 => by simp
  | n + 1 => by
    rw [List.range_succ, List.flatMap_append, parts_all l n, Nat.mul_add, List.take_add]
    simp [partI]
theorem HasC.load {R : Recs} {l : List UInt8} {I : Nat → Nat} {n : Nat} (h : HasC R l I n) : (idsI I n).flatMap (pieceR R) = l := by
  have hn := h.hn
  unfold nBlk at hn
  have e : (idsI I n).flatMap (pieceR R) = (List.range n).flatMap (partI l) := by
    unfold idsI
    rw [List.flatMap_map]
    refine flat_congr fun i hi => ?_
    obtain ⟨-, f2, -, f4⟩ := h.facts (List.mem_range.1 hi)
    unfold pieceR
    rw [f2, f4, List.take_left]
  rw [e, parts_all, List.take_of_length_le (by omega)]
/-! storing -/
theorem storeR_at : ∀ (R : Recs) (L : List (Nat × List UInt8)) (k : Nat) (d : List UInt8), (L.map Prod.fst).Nodup → (k, d) ∈ L → (storeR R L).getD k none = some d
  | R, (j, e) :: L, k, d, hn, hm => by
    rw [List.map_cons, List.nodup_cons] at hn
    show (storeR (putR R j e) L).getD k none = some d
    rcases List.mem_cons.1 hm with h | h
    · cases h
      exact storeR_put (putR R j e) L j e hn.1 (by rw [putR_get, if_pos rfl])
    · exact storeR_at (putR R j e) L k d hn.2 h
where
  storeR_put : ∀ (R : Recs) (L : List (Nat × List UInt8)) (k : Nat) (d : List UInt8), k ∉ L.map Prod.fst → R.getD k none = some d → (storeR R L).getD k none = some d
  | _, [], _, _, _, h => h
  | R, (j, e) :: L, k, d, hn, h => by
    rw [List.map_cons, List.mem_cons, not_or] at hn
    exact storeR_put (putR R j e) L k d hn.2 (by rw [putR_get, if_neg hn.1]; exact h)
theorem storeR_off : ∀ (R : Recs) (L : List (Nat × List UInt8)) (k : Nat), k ∉ L.map Prod.fst → (storeR R L).getD k none = R.getD k none
  | _, [], _, _ => rfl
  | R, (j, e) :: L, k, hn => by
    rw [List.map_cons, List.mem_cons, not_or] at hn
    show (storeR (putR R j e) L).getD k none = _
    rw [storeR_off (putR R j e) L k hn.2, putR_get, if_neg hn.1]
theorem stR_has (R : Recs) (l : List UInt8) (hid : liveN R + nBlk l.length ≤ 65536) : HasC (stR R l) l (idAt R) (nBlk l.length) := by
  refine ⟨rfl, fun i hi => ?_, fun i j _ _ e => idAt_inj R e, fun i hi => by have := idAt_le R i; omega⟩
  unfold stR
  refine storeR_at R _ _ (recI R l (nBlk l.length) i) (by rw [putL_fst]; exact ids_nodup R _) ?_
  unfold putL
  exact List.mem_map.2 ⟨i, List.mem_range.2 hi, rfl⟩
theorem stR_off (R : Recs) (l : List UInt8) (k : Nat) (h : k ∉ ids R (nBlk l.length)) : (stR R l).getD k none = R.getD k none := by
  unfold stR
  exact storeR_off R _ k (by rw [putL_fst]; exact h)
theorem stR_old {R : Recs} {l : List UInt8} {k : Nat} (h : usedB R k = true) : (stR R l).getD k none = R.getD k none := stR_off R l k fun hm => by
  obtain ⟨j, -, rfl⟩ := mem_ids.1 hm
  unfold usedB at h
  rw [idAt_free] at h
  cases h
theorem stR_used {R : Recs} {l : List UInt8} {k : Nat} (h : usedB R k = true) : usedB (stR R l) k = true := by
  unfold usedB at h ⊢
  rw [stR_old h]
  exact h
theorem stR_new {R : Recs} {l : List UInt8} {k : Nat} (h : usedB (stR R l) k = true) : usedB R k = true ∨ k ∈ ids R (nBlk l.length) := by
  by_cases hm : k ∈ ids R (nBlk l.length)
  · exact .inr hm
  · unfold usedB at h ⊢
    rw [stR_off R l k hm] at h
    exact .inl h
/-! walking where more is in use -/
theorem recAt_same {R R' : Recs} {k : Nat} (h : R'.getD k none = R.getD k none) : recAt R' k = recAt R k := by unfold recAt; rw [h]
theorem soundV_more {R R' : Recs} (hu : ∀ k, usedB R k = true → usedB R' k = true) {st us : Nat} {nx : Int} {D : List UInt8} (h : soundV R st us nx D = true) : soundV R' st us nx D = true := by
  unfold soundV at h ⊢
  simp only [Bool.and_eq_true] at h ⊢
  obtain ⟨h1, h2, h3, h4⟩ := h
  refine ⟨h1, h2, h3, ?_⟩
  by_cases hn : nx = -1
  · rw [if_pos hn] at h4 ⊢; exact h4
  · rw [if_neg hn, Bool.and_eq_true] at h4 ⊢
    obtain ⟨h5, -, -⟩ := usedR_lt h4.2
    refine ⟨h4.1, ?_⟩
    have e : ((nx.toNat : Nat) : Int) = nx := by omega
    rw [← e, ← usedB_nat]
    exact hu _ (by rw [usedB_nat, e]; exact h4.2)
theorem sndR_more {R R' : Recs} (hu : ∀ k, usedB R k = true → usedB R' k = true) {k : Nat} (hs : R'.getD k none = R.getD k none) (h : sndR R k = true) : sndR R' k = true := by
  unfold sndR at h ⊢
  rw [recAt_same hs]
  exact soundV_more hu h
theorem walkN_more {R R' : Recs} {i : Nat} (hu : ∀ k, usedB R k = true → usedB R' k = true) (hs : ∀ k, usedB R k = true → R'.getD k none = R.getD k none) : ∀ (k k' : Nat) (met : List Nat) (id : Int) (ids : List Nat), k ≤ k' → walkN R i k met id = (ids, 0) → (id = -1 ∨ usedR R id = true) → walkN R' i k' met id = (ids, 0)
  | 0, k', met, id, ids, _, h, _ => by
    rw [walkN] at h
    split at h
    · rename_i he
      subst he
      rw [walkN_end]
      exact h
    · exact absurd (congrArg Prod.snd h) (by intro h; cases h)
  | k + 1, k', met, id, ids, hk, h, hid => by
    obtain ⟨k', rfl⟩ : ∃ k'', k' = k'' + 1 := ⟨k' - 1, by omega⟩
    by_cases he : id = -1
    · subst he
      rw [walkN_end] at h ⊢
      exact h
    · have hus := hid.resolve_left he
      obtain ⟨h0, h1, -⟩ := usedR_lt hus
      obtain ⟨m, rfl⟩ : ∃ m : Nat, id = m := ⟨id.toNat, by omega⟩
      have hub : usedB R m = true := by rw [usedB_nat]; exact hus
      by_cases hm : m ∈ met
      · rw [walkN_met hm] at h
        exact absurd (congrArg Prod.snd h) (by intro h; cases h)
      · cases hg : goodR R i m with
        | false =>
          rw [walkN_bad hm hg] at h
          exact absurd (congrArg Prod.snd h) (by intro h; cases h)
        | true =>
          rw [walkN_on hm hg] at h
          have hg' : goodR R' i m = true := by
            unfold goodR at hg ⊢
            rw [Bool.and_eq_true] at hg ⊢
            rw [recAt_same (hs m hub)]
            exact ⟨hg.1, sndR_more hu (hs m hub) hg.2⟩
          rw [walkN_on hm hg', show nxtR R' m = nxtR R m by unfold nxtR; rw [recAt_same (hs m hub)]]
          exact walkN_more hu hs k k' (met ++ [m]) (nxtR R m) ids (by omega) h (sndR_next (goodR_snd hg))
theorem stR_check {R : Recs} {l : List UInt8} (hid : liveN R + nBlk l.length ≤ 65536) (hs : soundAll R = true) (h : namedAll R = true ∧ totalN R R.length = liveN R) : soundAll (stR R l) = true ∧ namedAll (stR R l) = true ∧ totalN (stR R l) (stR R l).length = liveN (stR R l) := by
  have hc := stR_has R l hid
  have hu := fun k (hk : usedB R k = true) => stR_used (l := l) hk
  have hold := fun k (hk : usedB R k = true) => stR_old (l := l) hk
  have hsa : soundAll (stR R l) = true := List.all_eq_true.2 fun k _ => by
    cases huk : usedB (stR R l) k with
    | false => rfl
    | true =>
      rw [Bool.not_true, Bool.false_or]
      rcases stR_new huk with h1 | h1
      · exact sndR_more hu (hold k h1) (soundAll_at hs h1)
      · obtain ⟨j, hj, rfl⟩ := mem_ids.1 h1
        exact hc.sound hj
  obtain ⟨hw, hnd, hall⟩ := (check_iff hs).1 h
  refine ⟨hsa, (check_iff hsa).2 ?_⟩
  have hstart : ∀ i, i ∈ startsK (stR R l) (stR R l).length → i ∈ startsK R R.length ∨ i = idAt R 0 := fun i hi => by
    obtain ⟨h1, h2, -⟩ := startsK_mem hi
    rcases stR_new h1 with h3 | h3
    · refine .inl (startsK_at h3 ?_ (usedB_lt h3))
      unfold stB at h2 ⊢
      rw [recAt_same (hold i h3)] at h2
      exact h2
    · obtain ⟨j, hj, rfl⟩ := mem_ids.1 h3
      unfold stB at h2
      rw [(hc.facts hj).1] at h2
      by_cases h0 : j = 0
      · exact .inr (by rw [h0])
      · rw [if_neg h0] at h2; cases h2
  have hback : ∀ i, i ∈ startsK R R.length → i ∈ startsK (stR R l) (stR R l).length := fun i hi => by
    obtain ⟨h1, h2, -⟩ := startsK_mem hi
    refine startsK_at (hu i h1) ?_ (usedB_lt (hu i h1))
    unfold stB at h2 ⊢
    rw [recAt_same (hold i h1)]
    exact h2
  have hwo : ∀ i, i ∈ startsK R R.length → walkS (stR R l) (i : Nat) = walkS R (i : Nat) := fun i hi => by
    obtain ⟨h1, -, -⟩ := startsK_mem hi
    rw [walkS_use (hu i h1), walkS_use h1]
    have he := hw i hi
    rw [walkS_use h1] at he
    have := walkN_more (i := i) hu hold (R.length + 1) ((stR R l).length + 1) [] (i : Nat) (walkN R i (R.length + 1) [] (i : Nat)).1 (by have := storeR_length R (putL R l (nBlk l.length) (nBlk l.length)); unfold stR; omega) (Prod.ext rfl he) (.inr (by rw [← usedB_nat]; exact h1))
    rw [this]
    exact (Prod.ext rfl he.symm)
  have hchO : ∀ i, i ∈ startsK R R.length → chR (stR R l) i = chR R i := fun i hi => by unfold chR; rw [hwo i hi]
  have hchN : chR (stR R l) (idAt R 0) = idsI (idAt R) (nBlk l.length) := by unfold chR; rw [hc.walkS]
  have hw' : ∀ i ∈ startsK (stR R l) (stR R l).length, (walkS (stR R l) (i : Nat)).2 = 0 := fun i hi => by
    rcases hstart i hi with h1 | h1
    · rw [hwo i h1]; exact hw i h1
    · rw [h1, hc.walkS]
  have hokO := fun i hi => chR_ok (startsK_mem hi).1 (hw i hi)
  have hnew : ∀ i ∈ startsK R R.length, ∀ x, x ∈ chR R i → x ∉ idsI (idAt R) (nBlk l.length) := fun i hi x hx hm => by
    obtain ⟨j, -, rfl⟩ := mem_idsI.1 hm
    have := (hokO i hi).2.2.1 _ hx
    unfold usedB at this
    rw [idAt_free] at this
    cases this
  refine ⟨hw', ?_, fun k hk => ?_⟩
  · refine flat_nodup (startsK_nodup _ _) (fun i hi => (chR_ok (startsK_mem hi).1 (hw' i hi)).2.1) (fun i hi j hj hij x hx hx2 => ?_)
    rcases hstart i hi with h1 | h1
    · rcases hstart j hj with h2 | h2
      · rw [hchO i h1] at hx
        rw [hchO j h2] at hx2
        exact hij (flat_disj hnd i h1 j h2 x hx hx2)
      · rw [hchO i h1] at hx
        rw [h2, hchN] at hx2
        exact hnew i h1 x hx hx2
    · rcases hstart j hj with h2 | h2
      · rw [h1, hchN] at hx
        rw [hchO j h2] at hx2
        exact hnew j h2 x hx2 hx
      · exact hij (h1.trans h2.symm)
  · rcases stR_new hk with h1 | h1
    · obtain ⟨i, hi, hx⟩ := List.mem_flatMap.1 (hall k h1)
      exact List.mem_flatMap.2 ⟨i, hback i hi, by rw [hchO i hi]; exact hx⟩
    · obtain ⟨j, hj, rfl⟩ := mem_ids.1 h1
      have h0 : idAt R 0 ∈ startsK (stR R l) (stR R l).length := startsK_at (hc.used hc.pos) (by unfold stB; rw [(hc.facts hc.pos).1]; rfl) (usedB_lt (hc.used hc.pos))
      exact List.mem_flatMap.2 ⟨idAt R 0, h0, by rw [hchN]; exact mem_idsI.2 ⟨j, hj, rfl⟩⟩
/-! dropping -/
theorem dropS_facts : ∀ (L : List Nat) (s : RFS), L.Nodup → (∀ k ∈ L, usedB s.R k = true) → (dropS s L).sz = s.sz ∧ liveN (dropS s L).R + L.length = liveN s.R ∧ ∀ k, k ∉ L → (dropS s L).R.getD k none = s.R.getD k none
  | [], s, _, _ => ⟨rfl, rfl, fun _ _ => rfl⟩
  | k :: L, s, hn, hu => by
    have hn' := List.nodup_cons.1 hn
    have huk := hu k List.mem_cons_self
    have e : freS s (k : Nat) = { s with R := freeR s.R k, low := min s.low k } := by
      unfold freS
      rw [if_pos (by rw [← usedB_nat]; exact huk), Int.toNat_natCast]
    have hget : ∀ j, j ≠ k → (freeR s.R k).getD j none = s.R.getD j none := fun j hj => by
      unfold freeR
      rw [List.getD_eq_getElem?_getD, List.getD_eq_getElem?_getD, List.getElem?_set_ne (Ne.symm hj)]
    obtain ⟨h1, h2, h3⟩ := dropS_facts L (freS s (k : Nat)) hn'.2 fun j hj => by
      rw [e]
      have := hu j (List.mem_cons_of_mem _ hj)
      unfold usedB at this ⊢
      rw [hget j (fun e => hn'.1 (e ▸ hj))]
      exact this
    have hd : dropS s (k :: L) = dropS (freS s (k : Nat)) L := rfl
    rw [hd]
    refine ⟨h1.trans (by rw [e]), ?_, fun j hj => ?_⟩
    · have h4 := liveN_free s.R k huk
      have h5 : liveN (dropS (freS s (k : Nat)) L).R + L.length = liveN (freeR s.R k) := by
        rw [e] at h2 ⊢
        exact h2
      rw [List.length_cons]
      omega
    · rw [h3 j (fun hm => hj (List.mem_cons_of_mem _ hm)), e]
      exact hget j (fun e => hj (e ▸ List.mem_cons_self))
theorem HasC.walkE {s : RFS} {l : List UInt8} {I : Nat → Nat} {n : Nat} (h : HasC s.R l I n) (h32 : s.sz = 32) : walkE s (I 0 : Nat) = (idsI I n, 0) := by
  unfold Proofs.YtkcipbjikimlfaaDoor.walkE
  rw [if_neg (by omega)]
  exact h.walkS
theorem HasC.loadE {s : RFS} {l : List UInt8} {I : Nat → Nat} {n : Nat} (h : HasC s.R l I n) (h32 : s.sz = 32) : loadE s (I 0 : Nat) = l := by
  unfold Proofs.YtkcipbjikimlfaaDoor.loadE
  rw [h.walkE h32]
  exact h.load
end Go.Proofs.YtkcipbjikimlfaaDoor
