/- Blocks: Check's plain law: counting blocks from the starts is the same as walking all chains. No program. -/
import Derived.Test.YtkcipbjikimlfaaDoorBkI
import Derived.Test.YtkcipbjikimlfaaDoorMbD
namespace Go.Proofs.YtkcipbjikimlfaaDoor
open Go.RowKit Go.Maps

theorem nodupR {l : List Nat} : l.reverse.Nodup ↔ l.Nodup := by
  unfold List.Nodup
  rw [List.pairwise_reverse]
  constructor <;> exact fun h => h.imp fun hne => Ne.symm hne
theorem PathR.first {R : Recs} {i : Nat} : ∀ {vs : List Nat} {c : Int}, PathR R i vs c → vs ≠ [] → i ∈ vs
  | [], _, _, h => absurd rfl h
  | [v], _, h, _ => by
    have h1 : (v : Int) = (i : Int) := h.1
    rw [show i = v by omega]
    exact List.mem_cons_self
  | v :: v' :: vs, _, h, _ => List.mem_cons_of_mem _ (PathR.first h.1 (by simp))
/-- what stands behind a block of a way stands in it, too, or is where it leads -/
theorem PathR.nxt {R : Recs} {i : Nat} : ∀ {vs : List Nat} {c : Int}, PathR R i vs c → ∀ u ∈ vs, nxtR R u = c ∨ ∃ u' ∈ vs, nxtR R u = (u' : Int)
  | v :: vs, c, h, u, hu => by
    rcases List.mem_cons.1 hu with rfl | hu
    · exact .inl h.2
    · rcases PathR.nxt h.1 u hu with h1 | ⟨u', h1, h2⟩
      · exact .inr ⟨v, List.mem_cons_self, h1⟩
      · exact .inr ⟨u', List.mem_cons_of_mem _ h1, h2⟩
theorem PathR.inj {R : Recs} {i : Nat} : ∀ {vs : List Nat} {c : Int}, PathR R i vs c → vs.Nodup → (∀ u ∈ vs, (u : Int) ≠ c) → ∀ u1 ∈ vs, ∀ u2 ∈ vs, nxtR R u1 = nxtR R u2 → u1 = u2
  | v :: vs, c, h, hn, hc, u1, h1, u2, h2 => by
    have hn' := List.nodup_cons.1 hn
    have key : ∀ u ∈ vs, nxtR R u ≠ nxtR R v := fun u hu e => by
      rcases PathR.nxt h.1 u hu with h3 | ⟨u', h3, h4⟩
      · exact hc v List.mem_cons_self (by rw [← h3, e, h.2])
      · exact hc u' (List.mem_cons_of_mem _ h3) (by rw [← h4, e, h.2])
    intro e
    rcases List.mem_cons.1 h1 with e1 | h3
    · rcases List.mem_cons.1 h2 with e2 | h4
      · rw [e1, e2]
      · rw [e1] at e
        exact absurd e.symm (key u2 h4)
    · rcases List.mem_cons.1 h2 with e2 | h4
      · rw [e2] at e
        exact absurd e (key u1 h3)
      · exact PathR.inj h.1 hn'.2 (fun u hu e => hn'.1 (by rw [show v = u by omega]; exact hu)) u1 h3 u2 h4 e
theorem PathR.start {R : Recs} {i : Nat} : ∀ {vs : List Nat} {c : Int}, PathR R i vs c → vs.Nodup → c ≠ (i : Int) → ∀ u ∈ vs, nxtR R u ≠ (i : Int)
  | v :: vs, c, h, hn, hc, u, hu => by
    have hn' := List.nodup_cons.1 hn
    rcases List.mem_cons.1 hu with rfl | hu
    · rw [h.2]; exact hc
    · refine PathR.start h.1 hn'.2 (fun e => ?_) u hu
      have hi := PathR.first h.1 (List.ne_nil_of_mem hu)
      exact hn'.1 (by rw [show v = i by omega]; exact hi)
/-- two ways from different starts don't meet -/
theorem PathR.disj {R : Recs} {i j : Nat} (hna : namedAll R = true) (hi : usedB R i = true ∧ stB R i = true ∧ i < R.length) (hj : usedB R j = true ∧ stB R j = true ∧ j < R.length) (hij : i ≠ j) {ws : List Nat} {c' : Int} (hw : PathR R j ws c') (hwu : ∀ u ∈ ws, usedB R u = true) :
    ∀ {vs : List Nat} {c : Int}, PathR R i vs c → (∀ u ∈ vs, usedB R u = true) → ∀ u ∈ vs, u ∉ ws
  | v :: vs, c, h, hu, u, hmu => by
    have ih := PathR.disj hna hi hj hij hw hwu h.1 (fun u hu' => hu u (List.mem_cons_of_mem _ hu'))
    have lt : ∀ {k : Nat}, usedB R k = true → k < R.length := fun h => usedB_lt h
    rcases List.mem_cons.1 hmu with rfl | hmu
    · intro hws
      have huu := hu u List.mem_cons_self
      have hk := namedAll_at hna huu
      unfold namedK at hk
      match vs, h, hu, ih with
      | [], h, hu, ih =>
        have h1 : (u : Int) = (i : Int) := h.1
        obtain rfl : u = i := by omega
        rw [if_pos (by rw [hi.1, hi.2.1]; simpa using hi.2.2)] at hk
        match ws, hw, hwu, hws with
        | w :: ws, hw, hwu, hws =>
          rcases PathR.mem hw u hws with h2 | ⟨u', h2, h3⟩
          · exact hij h2
          · have := cntN_one (R := R) (n := R.length) (lt (hwu u' (List.mem_cons_of_mem _ h2))) (hwu u' (List.mem_cons_of_mem _ h2)) h3
            omega
      | v1 :: vs, h, hu, ih =>
        have hv1 := hu v1 (List.mem_cons_of_mem _ List.mem_cons_self)
        have h1 : nxtR R v1 = (u : Int) := h.1.2
        have hc1 := cntN_one (R := R) (n := R.length) (lt hv1) hv1 h1
        match ws, hw, hwu, hws with
        | w :: ws, hw, hwu, hws =>
          rcases PathR.mem hw u hws with h2 | ⟨u', h2, h3⟩
          · subst h2
            rw [if_pos (by rw [hj.1, hj.2.1]; simpa using hj.2.2)] at hk
            omega
          · have hu' := hwu u' (List.mem_cons_of_mem _ h2)
            have hne : v1 ≠ u' := fun e => ih v1 List.mem_cons_self (e ▸ List.mem_cons_of_mem _ h2)
            have := cntN_two (R := R) (n := R.length) (lt hv1) (lt hu') hne hv1 hu' h1 h3
            omega
    · exact ih u hmu
/-- a walk that goes well -/
theorem walkN_ok {R : Recs} {i : Nat} : ∀ (k : Nat) (met : List Nat) (id : Int) (ids : List Nat), walkN R i k met id = (ids, 0) → PathR R i met.reverse id → met.Nodup → (∀ u ∈ met, usedB R u = true) → (id = -1 ∨ usedR R id = true) →
    PathR R i ids.reverse (-1) ∧ ids.Nodup ∧ (∀ u ∈ ids, usedB R u = true) ∧ ids.length = met.length + chainN R k id ∧ ∃ t, ids = met ++ t
  | 0, met, id, ids, h, hp, hn, hu, _ => by
    rw [walkN] at h
    split at h
    · rename_i he
      subst he
      obtain rfl : met = ids := congrArg Prod.fst h
      exact ⟨hp, hn, hu, by rw [chainN_end]; rfl, [], by simp⟩
    · exact absurd (congrArg Prod.snd h) (by intro h; cases h)
  | k + 1, met, id, ids, h, hp, hn, hu, hid => by
    rw [walkN] at h
    split at h
    · rename_i he
      subst he
      obtain rfl : met = ids := congrArg Prod.fst h
      exact ⟨hp, hn, hu, by rw [chainN_end]; rfl, [], by simp⟩
    · rename_i hne
      have hus := hid.resolve_left hne
      obtain ⟨h0, h1, -⟩ := usedR_lt hus
      obtain ⟨m, rfl⟩ : ∃ m : Nat, id = m := ⟨id.toNat, by omega⟩
      rw [Int.toNat_natCast] at h
      split at h
      · exact absurd (congrArg Prod.snd h) (by intro h; cases h)
      · rename_i hm
        split at h
        · rename_i hg
          have hub : usedB R m = true := by rw [usedB_nat]; exact hus
          obtain ⟨q1, q2, q3, q4, t, q5⟩ := walkN_ok k (met ++ [m]) (nxtR R m) ids h (by rw [List.reverse_append]; exact ⟨hp, rfl⟩) (by
            rw [List.nodup_append]
            refine ⟨hn, by simp, fun a ha b hb e => ?_⟩
            rw [List.mem_singleton.1 hb] at e
            exact hm (e ▸ ha)) (fun u hu' => by
            rcases List.mem_append.1 hu' with hu' | hu'
            · exact hu u hu'
            · rw [List.mem_singleton.1 hu']; exact hub) (sndR_next (goodR_snd hg))
          refine ⟨q1, q2, q3, ?_, [m] ++ t, by rw [q5, List.append_assoc]⟩
          rw [q4, chainN_on, List.length_append, List.length_singleton]
          omega
        · exact absurd (congrArg Prod.snd h) (by intro h; cases h)
/-- where nothing is named twice every walk from a start goes well -/
theorem walkN_named {R : Recs} {i : Nat} (hi : usedB R i = true ∧ stB R i = true ∧ i < R.length) (hs : soundAll R = true) (hna : namedAll R = true) : ∀ (k : Nat) (met : List Nat) (id : Int), PathR R i met.reverse id → met.Nodup → (∀ u ∈ met, usedB R u = true) → (id = -1 ∨ usedR R id = true) → R.length + 1 ≤ k + met.length → (walkN R i k met id).2 = 0
  | 0, met, id, hp, hn, hu, _, hk => by
    have := nodup_le R.length hn (fun u hu' => usedB_lt (hu u hu'))
    omega
  | k + 1, met, id, hp, hn, hu, hid, hk => by
    rw [walkN]
    split
    · rfl
    · rename_i hne
      have hus := hid.resolve_left hne
      obtain ⟨h0, h1, -⟩ := usedR_lt hus
      obtain ⟨m, rfl⟩ : ∃ m : Nat, id = m := ⟨id.toNat, by omega⟩
      have hub : usedB R m = true := by rw [usedB_nat]; exact hus
      have hnm := namedAll_at hna hub
      have hfr : m ∉ met := fun hm => PathR.fresh hp (nodupR.2 hn) (fun u hu' => ⟨usedB_lt (hu u (List.mem_reverse.1 hu')), hu u (List.mem_reverse.1 hu')⟩) hi hnm (List.mem_reverse.2 hm)
      have hg : goodR R i m = true := by
        unfold goodR
        rw [soundAll_at hs hub]
        by_cases hm0 : met = []
        · subst hm0
          have h2 : (m : Int) = (i : Int) := hp
          obtain rfl : m = i := by omega
          have := hi.2.1
          unfold stB at this
          rw [this]
          simp
        · have him := PathR.first hp (by simpa using hm0)
          have hmi : m ≠ i := fun e => hfr (e ▸ List.mem_reverse.1 him)
          have hst : stB R m = false := by
            cases hst : stB R m with
            | false => rfl
            | true =>
              unfold namedK at hnm
              rw [if_pos (by rw [hub, hst]; simpa using usedB_lt hub)] at hnm
              match hrv : met.reverse, hp with
              | [], _ => exact absurd (by simpa using hrv) hm0
              | v :: vs, hp =>
                have hv := hu v (List.mem_reverse.1 (by rw [hrv]; exact List.mem_cons_self))
                have := cntN_one (R := R) (n := R.length) (usedB_lt hv) hv hp.2
                omega
          unfold stB at hst
          rw [hst, beq_eq_false_iff_ne.2 hmi]
          rfl
      rw [Int.toNat_natCast, if_neg hfr, if_pos hg]
      exact walkN_named hi hs hna k (met ++ [m]) (nxtR R m) (by rw [List.reverse_append]; exact ⟨hp, rfl⟩) (by
            rw [List.nodup_append]
            refine ⟨hn, by simp, fun a ha b hb e => ?_⟩
            rw [List.mem_singleton.1 hb] at e
            exact hfr (e ▸ ha)) (fun u hu' => by
            rcases List.mem_append.1 hu' with hu' | hu'
            · exact hu u hu'
            · rw [List.mem_singleton.1 hu']; exact hub) (sndR_next (soundAll_at hs hub)) (by rw [List.length_append, List.length_singleton]; omega)
/-- the chain from a start -/
def chR (R : Recs) (i : Nat) : List Nat := (walkS R (i : Nat)).1
theorem walkS_use {R : Recs} {i : Nat} (hu : usedB R i = true) : walkS R (i : Nat) = walkN R i (R.length + 1) [] (i : Nat) := by
  unfold walkS
  rw [if_pos (by rw [← usedB_nat]; exact hu), Int.toNat_natCast]
theorem chR_ok {R : Recs} {i : Nat} (hu : usedB R i = true) (he : (walkS R (i : Nat)).2 = 0) : PathR R i (chR R i).reverse (-1) ∧ (chR R i).Nodup ∧ (∀ u ∈ chR R i, usedB R u = true) ∧ (chR R i).length = chainN R (R.length + 1) (i : Nat) ∧ i ∈ chR R i := by
  have h : walkN R i (R.length + 1) [] (i : Nat) = (chR R i, 0) := by
    rw [← walkS_use hu]
    exact Prod.ext rfl he
  obtain ⟨q1, q2, q3, q4, -⟩ := walkN_ok (R.length + 1) [] (i : Nat) (chR R i) h rfl List.nodup_nil (fun u hu => absurd hu (by simp)) (.inr (by rw [← usedB_nat]; exact hu))
  refine ⟨q1, q2, q3, by rw [q4]; simp, ?_⟩
  refine List.mem_reverse.1 (PathR.first q1 fun e => ?_)
  have : (chR R i).length = 0 := by rw [← List.length_reverse, e]; rfl
  rw [q4, chainN_on] at this
  simp at this
/-! lists -/
theorem sub_len : ∀ {l m : List Nat}, l.Nodup → (∀ x ∈ l, x ∈ m) → l.length ≤ m.length
  | [], m, _, _ => Nat.zero_le _
  | x :: l, m, hn, hs => by
    have hx := hs x List.mem_cons_self
    have hn' := List.nodup_cons.1 hn
    have h := sub_len (m := m.erase x) hn'.2 fun y hy => (List.mem_erase_of_ne (fun (e : y = x) => hn'.1 (e ▸ hy))).2 (hs y (List.mem_cons_of_mem _ hy))
    rw [List.length_erase_of_mem hx] at h
    have := List.length_pos_of_mem hx
    rw [List.length_cons]
    omega
theorem flat_nodup {f : Nat → List Nat} : ∀ {L : List Nat}, L.Nodup → (∀ i ∈ L, (f i).Nodup) → (∀ i ∈ L, ∀ j ∈ L, i ≠ j → ∀ x ∈ f i, x ∉ f j) → (L.flatMap f).Nodup
  | [], _, _, _ => List.nodup_nil
  | i :: L, hn, h1, h2 => by
    have hn' := List.nodup_cons.1 hn
    rw [List.flatMap_cons, List.nodup_append]
    refine ⟨h1 i List.mem_cons_self, flat_nodup hn'.2 (fun j hj => h1 j (List.mem_cons_of_mem _ hj)) (fun a ha b hb => h2 a (List.mem_cons_of_mem _ ha) b (List.mem_cons_of_mem _ hb)), fun a ha b hb e => ?_⟩
    obtain ⟨j, hj, hb⟩ := List.mem_flatMap.1 hb
    exact h2 i List.mem_cons_self j (List.mem_cons_of_mem _ hj) (fun e => hn'.1 (e ▸ hj)) a ha (e ▸ hb)
theorem flat_disj {f : Nat → List Nat} : ∀ {L : List Nat}, (L.flatMap f).Nodup → ∀ i ∈ L, ∀ j ∈ L, ∀ x, x ∈ f i → x ∈ f j → i = j
  | a :: L, h, i, hi, j, hj, x, h1, h2 => by
    rw [List.flatMap_cons, List.nodup_append] at h
    obtain ⟨-, q2, q3⟩ := h
    rcases List.mem_cons.1 hi with e | hi
    · rcases List.mem_cons.1 hj with e' | hj
      · rw [e, e']
      · exact absurd rfl (q3 x (e ▸ h1) x (List.mem_flatMap.2 ⟨j, hj, h2⟩))
    · rcases List.mem_cons.1 hj with e' | hj
      · exact absurd rfl (q3 x (e' ▸ h2) x (List.mem_flatMap.2 ⟨i, hi, h1⟩))
      · exact flat_disj q2 i hi j hj x h1 h2
theorem flat_len {f : Nat → List Nat} {g : Nat → Nat} : ∀ {L : List Nat}, (∀ i ∈ L, (f i).length = g i) → (L.flatMap f).length = (L.map g).sum
  | [], _ => rfl
  | i :: L, h => by
    rw [List.flatMap_cons, List.length_append, List.map_cons, List.sum_cons, h i List.mem_cons_self, flat_len fun j hj => h j (List.mem_cons_of_mem _ hj)]
def usedL (R : Recs) : List Nat := (List.range R.length).filter (usedB R)
theorem usedL_take (R : Recs) : ∀ m, ((List.range m).filter (usedB R)).length = liveN (R.take m)
  | 0 => rfl
  | m + 1 => by
    rw [List.range_succ, List.filter_append, List.length_append, usedL_take R m, liveN_take']
    congr 1
    rw [List.filter_cons]
    unfold usedB
    split <;> rfl
theorem usedL_len (R : Recs) : (usedL R).length = liveN R := by
  unfold usedL
  rw [usedL_take, List.take_length]
theorem usedL_mem {R : Recs} {k : Nat} : k ∈ usedL R ↔ usedB R k = true := by
  unfold usedL
  rw [List.mem_filter, List.mem_range]
  exact ⟨fun h => h.2, fun h => ⟨usedB_lt h, h⟩⟩
theorem usedL_nodup (R : Recs) : (usedL R).Nodup := List.nodup_range.filter _
theorem startsK_nodup (R : Recs) (n : Nat) : (startsK R n).Nodup := List.nodup_range.filter _
/-- all blocks that the starts reach -/
def allR (R : Recs) (n : Nat) : List Nat := (startsK R n).flatMap (chR R)
theorem check_iff {R : Recs} (hs : soundAll R = true) : (namedAll R = true ∧ totalN R R.length = liveN R) ↔ (∀ i ∈ startsK R R.length, (walkS R (i : Nat)).2 = 0) ∧ (allR R R.length).Nodup ∧ ∀ k, usedB R k = true → k ∈ allR R R.length := by
  constructor
  · rintro ⟨hna, htot⟩
    have hw : ∀ i ∈ startsK R R.length, (walkS R (i : Nat)).2 = 0 := fun i hi => by
      have h := startsK_mem hi
      rw [walkS_use h.1]
      exact walkN_named h hs hna (R.length + 1) [] (i : Nat) rfl List.nodup_nil (fun u hu => absurd hu (by simp)) (.inr (by rw [← usedB_nat]; exact h.1)) (by simp)
    have hc := fun i hi => chR_ok (startsK_mem hi).1 (hw i hi)
    have hnd : (allR R R.length).Nodup := flat_nodup (startsK_nodup R _) (fun i hi => (hc i hi).2.1) (fun i hi j hj hij x hx hx2 => PathR.disj hna (startsK_mem hi) (startsK_mem hj) hij (hc j hj).1 (fun u hu => (hc j hj).2.2.1 u (List.mem_reverse.1 hu)) (hc i hi).1 (fun u hu => (hc i hi).2.2.1 u (List.mem_reverse.1 hu)) x (List.mem_reverse.2 hx) (List.mem_reverse.2 hx2))
    refine ⟨hw, hnd, fun k hk => ?_⟩
    have hlen : (allR R R.length).length = liveN R := by
      rw [← htot]
      exact flat_len fun i hi => (hc i hi).2.2.2.1
    by_cases hm : k ∈ allR R R.length
    · exact hm
    · exfalso
      have h := sub_len (l := k :: allR R R.length) (m := usedL R) (List.nodup_cons.2 ⟨hm, hnd⟩) (fun x hx => by
        rw [usedL_mem]
        rcases List.mem_cons.1 hx with rfl | hx
        · exact hk
        · obtain ⟨i, hi, hx⟩ := List.mem_flatMap.1 hx
          exact (hc i hi).2.2.1 x hx)
      rw [List.length_cons, hlen, usedL_len] at h
      omega
  · rintro ⟨hw, hnd, hall⟩
    have hc := fun i hi => chR_ok (startsK_mem hi).1 (hw i hi)
    have hlen : (allR R R.length).length = totalN R R.length := flat_len fun i hi => (hc i hi).2.2.2.1
    have hnx : ∀ a k : Nat, usedB R a = true → nxtR R a = (k : Int) → ∃ i ∈ startsK R R.length, a ∈ chR R i ∧ k ∈ chR R i := fun a k ha h => by
      obtain ⟨i, hi, hx⟩ := List.mem_flatMap.1 (hall a ha)
      refine ⟨i, hi, hx, ?_⟩
      rcases PathR.nxt (hc i hi).1 a (List.mem_reverse.2 hx) with h1 | ⟨u', h1, h2⟩
      · omega
      · rw [show k = u' by omega]
        exact List.mem_reverse.1 h1
    have hnneg : ∀ i ∈ startsK R R.length, ∀ u ∈ (chR R i).reverse, (u : Int) ≠ -1 := fun i hi u hu => by omega
    refine ⟨List.all_eq_true.2 fun k hk => ?_, ?_⟩
    · cases huk : usedB R k with
      | false => rfl
      | true =>
        rw [Bool.not_true, Bool.false_or, decide_eq_true_eq]
        have hcn : ∀ a ∈ (List.range R.length).filter (fun i => usedB R i && (nxtR R i == (k : Int))), usedB R a = true ∧ nxtR R a = (k : Int) := fun a ha => by
          have := (List.mem_filter.1 ha).2
          rw [Bool.and_eq_true, beq_iff_eq] at this
          exact this
        have h1 : cntN R R.length k ≤ 1 := by
          unfold cntN
          match hF : (List.range R.length).filter (fun i => usedB R i && (nxtR R i == (k : Int))) with
          | [] => simp
          | [_] => simp
          | a :: b :: r =>
            exfalso
            have hnF : ((List.range R.length).filter (fun i => usedB R i && (nxtR R i == (k : Int)))).Nodup := List.nodup_range.filter _
            rw [hF] at hnF hcn
            have ha := hcn a List.mem_cons_self
            have hb := hcn b (List.mem_cons_of_mem _ List.mem_cons_self)
            obtain ⟨i, hi, ha1, ha2⟩ := hnx a k ha.1 ha.2
            obtain ⟨j, hj, hb1, hb2⟩ := hnx b k hb.1 hb.2
            obtain rfl := flat_disj hnd i hi j hj k ha2 hb2
            have := PathR.inj (hc i hi).1 (nodupR.2 (hc i hi).2.1) (hnneg i hi) a (List.mem_reverse.2 ha1) b (List.mem_reverse.2 hb1) (ha.2.trans hb.2.symm)
            exact (List.nodup_cons.1 hnF).1 (by rw [this]; exact List.mem_cons_self)
        unfold namedK
        split
        · rename_i hst
          have h0 : cntN R R.length k = 0 := by
            unfold cntN
            match hF : (List.range R.length).filter (fun i => usedB R i && (nxtR R i == (k : Int))) with
            | [] => rfl
            | a :: r =>
              exfalso
              rw [hF] at hcn
              have ha := hcn a List.mem_cons_self
              rw [huk, Bool.true_and, Bool.and_eq_true, decide_eq_true_eq] at hst
              have hks : k ∈ startsK R R.length := by
                unfold startsK
                rw [List.mem_filter, List.mem_range, huk, hst.2]
                exact ⟨hst.1, rfl⟩
              obtain ⟨i, hi, ha1, ha2⟩ := hnx a k ha.1 ha.2
              obtain rfl := flat_disj hnd i hi k hks k ha2 (hc k hks).2.2.2.2
              exact PathR.start (hc i hi).1 (nodupR.2 (hc i hi).2.1) (by omega) a (List.mem_reverse.2 ha1) ha.2
          omega
        · omega
    · rw [← hlen, ← usedL_len]
      have h1 := sub_len (l := allR R R.length) (m := usedL R) hnd (fun x hx => by
        rw [usedL_mem]
        obtain ⟨i, hi, hx⟩ := List.mem_flatMap.1 hx
        exact (hc i hi).2.2.1 x hx)
      have h2 := sub_len (l := usedL R) (m := allR R R.length) (usedL_nodup R) (fun x hx => hall x (usedL_mem.1 hx))
      omega
end Go.Proofs.YtkcipbjikimlfaaDoor

/- The document's blocks: Check. -/
namespace Go.Proofs.YtkcipbjikimlfaaDoor
open Go.RowKit
attribute [local go_sem ↓] Go.wp_at_zero Go.wp_at_succ
attribute [local go_sem] Oper.semAt_some
/-- how often each id was met -/
def tB (n : Nat) (A : List Nat) : List Value := (List.range n).map fun k => .int .i64 ((if k ∈ A then 1 else 0 : Nat) : Int)
theorem tB_length (n : Nat) (A : List Nat) : (tB n A).length = n := by unfold tB; simp
theorem tB_nil (n : Nat) : tB n [] = List.replicate n (.int .i64 0) := by
  unfold tB
  apply List.ext_getElem
  · simp
  · intro i h1 h2; simp
theorem tB_get {n k : Nat} {A : List Nat} (h : k < n) : (tB n A)[k]? = some (.int .i64 ((if k ∈ A then 1 else 0 : Nat) : Int)) := by unfold tB; simp [h]
theorem tB_set {n k : Nat} {A : List Nat} (h : k < n) : (tB n A).set k (.int .i64 1) = tB n (A ++ [k]) := by
  apply List.ext_getElem
  · simp [tB_length]
  · intro i h1 h2
    rw [List.getElem_set]
    unfold tB
    by_cases hi : k = i
    · subst hi; simp
    · rw [if_neg hi]
      simp [Ne.symm hi]
theorem own_pos {w : World} {B e n m c : Nat} {a : Option Addr} {xs : List Value} (h : w.ownsRow B e 1 (.slice a m c) n xs) (hn : 0 < n) : ∃ g, a = some ⟨g, 0, none⟩ := by
  rcases h.2 with ⟨_, h0⟩ | ⟨g', cap, cur, e1, _⟩
  · omega
  · simp only [Value.slice.injEq] at e1
    exact ⟨g', e1.1⟩
theorem own_cell0 {w : World} {B e n m c g k : Nat} {xs : List Value} {v : Value} (h : w.ownsRow B e 1 (.slice (some ⟨g, 0, none⟩) m c) n xs) (hx : xs[k]? = some v) : w.cell? ⟨g, k, none⟩ = some v := by
  have hc := h.cells (g := g) rfl k v hx
  rwa [addO, Nat.zero_add] at hc
/-- is a record in use, in memory -/
theorem MF.recB {B p : Nat} {bs : List Nat} {w : World} {s : RFS} (h : MF B bs w p s) {k : Nat} (hk : k < s.R.length) : ∃ g c, w.cell? ⟨p, 3, none⟩ = some (.slice (some ⟨g, 0, none⟩) s.R.length c) ∧ w.cell? ⟨g, k * 2, none⟩ = some (.bool (usedB s.R k)) := by
  obtain ⟨v, X, h, -⟩ := h
  obtain ⟨a, c, rfl, -⟩ := h.recs.sl
  obtain ⟨g, rfl, -, -⟩ := h.recs.pos (by rw [h.len]; omega)
  have x3 := (four h.obj).2.2.2
  rw [h.len] at x3
  obtain ⟨x, hx, -, hxp, c1, -⟩ := h.at hk
  exact ⟨g, c, x3, c1⟩
theorem MF.len3 {B p : Nat} {bs : List Nat} {w : World} {s : RFS} (h : MF B bs w p s) : ∃ a c, w.cell? ⟨p, 3, none⟩ = some (.slice a s.R.length c) := by
  obtain ⟨v, X, h, -⟩ := h
  obtain ⟨a, c, rfl, -⟩ := h.recs.sl
  have x3 := (four h.obj).2.2.2
  rw [h.len] at x3
  exact ⟨a, c, x3⟩
theorem allR_succ (R : Recs) (k : Nat) : allR R (k + 1) = allR R k ++ (if usedB R k && stB R k then chR R k else []) := by
  unfold allR
  rw [startsK_succ, List.flatMap_append]
  congr 1
  split <;> simp
theorem allR_prefix (R : Recs) : ∀ (n i : Nat), i ≤ n → ∃ t, allR R n = allR R i ++ t
  | 0, i, h => ⟨[], by rw [show i = 0 by omega]; simp⟩
  | n + 1, i, h => by
    by_cases hi : i = n + 1
    · exact ⟨[], by rw [hi]; simp⟩
    · obtain ⟨t, ht⟩ := allR_prefix R n i (by omega)
      rw [allR_succ, ht]
      exact ⟨t ++ _, by rw [List.append_assoc]⟩
theorem startsK_mono {R : Recs} {i n j : Nat} (h : j ∈ startsK R i) (hin : i ≤ n) : j ∈ startsK R n := by
  unfold startsK at h ⊢
  rw [List.mem_filter, List.mem_range] at h ⊢
  exact ⟨by omega, h.2⟩
theorem startsK_at {R : Recs} {i n : Nat} (h1 : usedB R i = true) (h2 : stB R i = true) (hin : i < n) : i ∈ startsK R n := by
  unfold startsK
  rw [List.mem_filter, List.mem_range, h1, h2]
  exact ⟨hin, rfl⟩
theorem checkE_100 {s : RFS} (h32 : s.sz = 32) {i : Nat} (hu : usedB s.R i = true) (hs : sndR s.R i = false) : checkE s = 100 := by
  unfold checkE
  rw [if_neg (by omega)]
  cases hsa : soundAll s.R with
  | false => rfl
  | true => exact absurd ((soundAll_at hsa hu).symm.trans hs) (by decide)
theorem checkE_101 {s : RFS} (h32 : s.sz = 32) (hs : soundAll s.R = true) (h : ¬ ((∀ i ∈ startsK s.R s.R.length, (walkS s.R (i : Nat)).2 = 0) ∧ (allR s.R s.R.length).Nodup ∧ ∀ k, usedB s.R k = true → k ∈ allR s.R s.R.length)) : checkE s = 101 := by
  unfold checkE
  rw [if_neg (by omega), if_neg (by rw [hs]; decide)]
  cases hna : namedAll s.R with
  | false => rfl
  | true =>
    rw [if_neg (by decide), if_pos (fun e => h ((check_iff hs).1 ⟨hna, e⟩))]
theorem checkE_0 {s : RFS} (h32 : s.sz = 32) (hs : soundAll s.R = true) (h : (∀ i ∈ startsK s.R s.R.length, (walkS s.R (i : Nat)).2 = 0) ∧ (allR s.R s.R.length).Nodup ∧ ∀ k, usedB s.R k = true → k ∈ allR s.R s.R.length) : checkE s = 0 := by
  obtain ⟨h1, h2⟩ := (check_iff hs).2 h
  unfold checkE
  rw [if_neg (by omega), if_neg (by rw [hs]; decide), if_neg (by rw [h1]; decide), if_neg (by omega)]
set_option maxRecDepth 100000 in
set_option maxHeartbeats 6400000 in
theorem Check9 (B : Nat) (bs : List Nat) (w : World) (p : Nat) (s : RFS) (h : MF B bs w p s) :
    Calls Tryd.prog 20 #[.pointer (some ⟨p, 0, none⟩)] w fun e w' => e = .returned (.int .i64 (checkE s)) ∧ Fr [] w w' := by
  have HR := Lib.hid h
  have HOK := Lib.hid h.ok
  have x2 : w.cell? ⟨p, 2, none⟩ = some (.int .i64 s.sz) := by
    obtain ⟨v, X, h, rfl⟩ := h
    exact (four h.obj).2.2.1
  clear h
  by_cases h32 : s.sz = 32
  · rw [h32] at x2
    obtain ⟨n, hn⟩ : ∃ n, n = s.R.length := ⟨_, rfl⟩
    have hn6 : n ≤ 65536 := by have := HOK.out.len; omega
    have HN := Lib.hid hn
    have H32 := Lib.hid h32
    clear hn h32
    go_enter Tryd.func20, Tryd.ntmps20
    go_wp2_with fail
    have HM0 : Hid ((w.alloc (.cells #[] 3)).ownsRow w.heap.size 3 1 (.slice (some ⟨w.heap.size, 0, none⟩) 0 0) 0 []) := Lib.hid (World.ownsRow_made w (e := 3) (size := 1) #[] 0 (Nat.le_refl _) (by unfold maxLen; omega) rfl)
    clear x2
    go_loopw [3, 4] (fun v q wr => ∃ i : Nat, i ≤ n ∧ q = .int .i64 i ∧ wr.ownsRow w.heap.size 3 1 v i (List.replicate i (.int .i64 0)) ∧ Fr [] w wr ∧ ∀ j, j < i → usedB s.R j = true → sndR s.R j = true) (fun _ q _ => n - (intOf q).toNat)
    case atStart => exact ⟨0, by omega, rfl, HM0.out, (Fr.refl _ _).alloc _, fun j hj => absurd hj (by omega)⟩
    case round =>
      clear HM0
      obtain ⟨i, hi, rfl, ho, hfr, hsn⟩ := hrel
      obtain ⟨a3, c3, rfl⟩ := own_slR ho
      have HO := Lib.hid ho
      have HF := Lib.hid hfr
      have HSN := Lib.hid hsn
      clear ho hfr hsn
      by_cases hlt : i < n
      · have hii : (i : Int) < (n : Int) := by omega
        have hi0 : (0 : Int) ≤ (i : Int) := by omega
        obtain ⟨g, c, x3, x4⟩ := (HR.out.keep HF.out).recB (k := i) (by rw [← HN.out]; exact hlt)
        rw [← HN.out] at x3
        obtain ⟨u, hu⟩ : ∃ u, u = usedB s.R i := ⟨_, rfl⟩
        rw [← hu] at x4
        have HU := Lib.hid hu
        have hfx : Fr [] wr (wr.alloc (.cells #[.int .i64 0] 3)) := (Fr.refl [] _).alloc _
        have hnews : ∀ a, some (⟨wr.heap.size, 0, none⟩ : Addr) = some a → ∀ j u, [Value.int .i64 0][j]? = some u → (wr.alloc (.cells #[.int .i64 0] 3)).cell? (a.add j) = some u := by
          intro a ha j u hu
          cases ha
          have hz := heap_alloc_new wr (.cells #[.int .i64 0] 3)
          rw [addO, Nat.zero_add, cell_of_row _ _ j _ _ _ hz]
          simpa using hu
        have HNEWS := Lib.hid hnews
        have HOX := Lib.hid (own_fr HO.out hfx (by simp))
        have HFX := Lib.hid (HF.out.trans hfx)
        have HBW := Lib.hid (show w.heap.size ≤ (wr.alloc (.cells #[.int .i64 0] 3)).heap.size from HFX.out.size)
        have e1 : IntKind.i64.wrap ((i : Int) + 1) = (i : Int) + 1 := IntWalk.i64_in _ (by omega)
        clear hnews hfx hu
        go_upto_region 8 with (at_builtin; refine wpList_appS _ rfl _ _ 30 rfl w.heap.size 3 _ 1 8 Tryd.underlying30 infoI rfl (by decide) (.slice a3 i c3) i (List.replicate i (.int .i64 0)) rfl HOX.out (some ⟨wr.heap.size, 0, none⟩) 1 1 [.int .i64 0] rfl rfl HNEWS.out (fun h => by cases h) (by simp [Value.oneCell']) (by unfold maxLen; omega) (by omega) HBW.out ?_; intro v' w6 happ; have HAPP := Lib.hid happ; clear happ)
        have hfa := app_frZ HAPP.out
        have hf7 : Fr [] w w6 := HFX.out.next hfa (fun i hi hlt => by have := (own_lt HOX.out (g := i) (by simpa using hi)).1; omega)
        have HF7 := Lib.hid hf7
        have HROW : Hid (w6.ownsRow w.heap.size 3 1 v' (i + 1) (List.replicate (i + 1) (.int .i64 0))) := Lib.hid (by
          rw [List.replicate_succ']
          exact HAPP.out.own)
        obtain ⟨g', c', y3, y4⟩ := (HR.out.keep hf7).recB (k := i) (by rw [← HN.out]; exact hlt)
        rw [← HN.out] at y3
        rw [← HU.out] at y4
        clear hfa hf7 x3 x4
        cases u with
        | false =>
          go_wp2_with fail
          go_roundw
          case rel =>
            refine ⟨i + 1, by omega, by go_num, HROW.out, HF7.out, fun j hj hu => ?_⟩
            by_cases h : j < i
            · exact HSN.out j h hu
            · obtain rfl : j = i := by omega
              exact absurd (HU.out.trans hu) (by decide)
          case measure => simp [intOf] <;> omega
        | true =>
          have HSD := Lib.hid (Sound9 B bs w6 p s (HR.out.keep HF7.out) H32.out i HU.out.symm)
          obtain ⟨sd, hsd⟩ : ∃ sd, sd = sndR s.R i := ⟨_, rfl⟩
          rw [← hsd] at HSD
          have HSS := Lib.hid hsd
          clear hsd
          go_wp2_with fail
          refine HSD.out.mono ?_
          rintro e w7 ⟨rfl, hf8⟩
          have HF8 := Lib.hid hf8
          clear hf8
          cases sd with
          | false =>
            go_wp2_with fail
            go_ret
            exact ⟨by rw [checkE_100 H32.out HU.out.symm HSS.out.symm]; rfl, HF7.out.trans HF8.out⟩
          | true =>
            go_wp2_with fail
            go_roundw
            case rel =>
              refine ⟨i + 1, by omega, by go_num, own_fr HROW.out HF8.out (by simp), HF7.out.trans HF8.out, fun j hj hu => ?_⟩
              by_cases h : j < i
              · exact HSN.out j h hu
              · obtain rfl : j = i := by omega
                exact HSS.out.symm
            case measure => simp [intOf] <;> omega
      · obtain rfl : n = i := by omega
        have hii : ¬ (n : Int) < (n : Int) := by omega
        have HSA : Hid (soundAll s.R = true) := Lib.hid (List.all_eq_true.2 fun j hj => by
          rw [List.mem_range] at hj
          cases hu : usedB s.R j with
          | false => rfl
          | true => rw [HSN.out j (by rw [HN.out]; exact hj) hu]; rfl)
        obtain ⟨ax, cx, y3⟩ := (HR.out.keep HF.out).len3
        rw [← HN.out] at y3
        have HT0 : Hid (wr.ownsRow w.heap.size 3 1 (.slice a3 n c3) n (tB n [])) := Lib.hid (by rw [tB_nil]; exact HO.out)
        have HF0 := Lib.hid HF.out
        clear hlt hi HO HSN HF
        go_wp2_with fail
        clear y3
        go_loopw [5] (fun q wr => ∃ i : Nat, i ≤ n ∧ q = .int .i64 i ∧ wr.ownsRow w.heap.size 3 1 (.slice a3 n c3) n (tB n (allR s.R i)) ∧ Fr [] w wr ∧ (allR s.R i).Nodup ∧ ∀ j ∈ startsK s.R i, (walkS s.R (j : Nat)).2 = 0) (fun q _ => n - (intOf q).toNat)
        case atStart => exact ⟨0, by omega, rfl, HT0.out, HF0.out, List.nodup_nil, fun j hj => absurd hj (by simp [startsK])⟩
        case round =>
          clear HT0 HF0
          obtain ⟨i, hi, rfl, ho, hfr, hnd, hws⟩ := hrel
          have HO := Lib.hid ho
          have HF := Lib.hid hfr
          have HND := Lib.hid hnd
          have HWS := Lib.hid hws
          clear ho hfr hnd hws
          obtain ⟨ax, cx, y3⟩ := (HR.out.keep HF.out).len3
          rw [← HN.out] at y3
          have e1 : IntKind.i64.wrap ((i : Int) + 1) = (i : Int) + 1 := IntWalk.i64_in _ (by omega)
          by_cases hlt : i < n
          · have hii : (i : Int) < (n : Int) := by omega
            have hi0 : (0 : Int) ≤ (i : Int) := by omega
            clear y3
            obtain ⟨g, c, y3, y4⟩ := (HR.out.keep HF.out).recB (k := i) (by rw [← HN.out]; exact hlt)
            rw [← HN.out] at y3
            obtain ⟨u, hu⟩ : ∃ u, u = usedB s.R i := ⟨_, rfl⟩
            rw [← hu] at y4
            have HU := Lib.hid hu
            clear hu
            cases u with
            | false =>
              go_wp2_with fail
              go_roundw
              case rel =>
                have h1 : allR s.R (i + 1) = allR s.R i := by rw [allR_succ, ← HU.out]; simp
                have h2 : startsK s.R (i + 1) = startsK s.R i := by rw [startsK_succ, ← HU.out]; simp
                exact ⟨i + 1, by omega, by go_num, by rw [h1]; exact HO.out, HF.out, by rw [h1]; exact HND.out, by rw [h2]; exact HWS.out⟩
              case measure => simp [intOf] <;> omega
            | true =>
              clear y3 y4
              obtain ⟨g, c, b, c2, y3, y4, y5, -, hbd, hdl⟩ := (HR.out.keep HF.out).recU H32.out HU.out.symm
              rw [← HN.out] at y3
              have y6 := bytes_cellN hbd (j := 0) (by omega)
              rw [← nm_b1 (by omega), show nm (recAt s.R i) 0 1 = pSt (recAt s.R i) from rfl] at y6
              obtain ⟨st, hst⟩ : ∃ st, st = pSt (recAt s.R i) := ⟨_, rfl⟩
              rw [← hst] at y6
              have HST : Hid (stB s.R i = (st == 1)) := Lib.hid (by unfold stB; rw [hst])
              clear hst hbd hdl
              by_cases h1 : st = 1
              · have h1i : ((st : Int) != 1) = false := by rw [h1]; rfl
                have HS1 : Hid (stB s.R i = true) := Lib.hid (by rw [HST.out, h1]; rfl)
                have HWK := Lib.hid (Walk9 B bs wr p s (i : Nat) (HR.out.keep HF.out))
                rw [show walkE s (i : Nat) = walkS s.R (i : Nat) by unfold walkE; rw [if_neg (by have := H32.out; omega)]] at HWK
                obtain ⟨E, hE⟩ : ∃ E, E = (walkS s.R (i : Nat)).2 := ⟨_, rfl⟩
                rw [← hE, show (walkS s.R (i : Nat)).1 = chR s.R i from rfl] at HWK
                have HEE := Lib.hid hE
                clear h1 hE
                go_wp2_with fail
                refine HWK.out.mono ?_
                rintro e w2 ⟨v6, rfl, ho6, hf2⟩
                obtain ⟨a6, c6, rfl⟩ := own_slR ho6
                have HO2 := Lib.hid (own_fr HO.out hf2 (by simp))
                have HF2 := Lib.hid (HF.out.trans hf2)
                have HNE : Hid (∀ g, (Value.slice a6 (chR s.R i).length c6).ownBlock = some g → (Value.slice a3 n c3).ownBlock ≠ some g) := Lib.hid (fun g hg1 hg2 => by
                  have h1 := (own_lt ho6 hg1).1
                  have h2 := (own_lt HO.out hg2).2
                  omega)
                have HO6 := Lib.hid ho6
                obtain ⟨b6, hb6⟩ : ∃ b6, b6 = wr.heap.size := ⟨_, rfl⟩
                rw [← hb6] at HO6
                clear ho6 hf2 y3 y4 y5 y6 HWK HO HF hb6
                by_cases hE0 : E = 0
                · have hE0i : (E != 0) = false := by rw [hE0]; rfl
                  have HE0 : Hid ((walkS s.R (i : Nat)).2 = 0) := Lib.hid (by rw [← HEE.out, hE0])
                  have HCH := Lib.hid (chR_ok HU.out.symm HE0.out)
                  obtain ⟨m, hm⟩ : ∃ m, m = (chR s.R i).length := ⟨_, rfl⟩
                  have hmn : m ≤ n := by
                    rw [hm, HN.out]
                    exact nodup_le _ HCH.out.2.1 (fun x hx => usedB_lt (HCH.out.2.2.1 x hx))
                  rw [← hm] at HO6 HNE ⊢
                  have HM := Lib.hid hm
                  clear hE0 hm
                  go_wp2_with fail
                  go_loopw [8] (fun q w3 => ∃ j : Nat, j ≤ m ∧ q = .int .i64 j ∧ w3.ownsRow w.heap.size 3 1 (.slice a3 n c3) n (tB n (allR s.R i ++ (chR s.R i).take j)) ∧ w3.ownsRow b6 3 1 (.slice a6 m c6) m ((chR s.R i).map fun (k : Nat) => Value.int .i64 k) ∧ (allR s.R i ++ (chR s.R i).take j).Nodup ∧ Fr [] w w3) (fun q _ => m - (intOf q).toNat)
                  case atStart => exact ⟨0, by omega, rfl, by simpa using HO2.out, HO6.out, by simpa using HND.out, HF2.out⟩
                  case round =>
                    clear HO2 HO6 HF2
                    obtain ⟨j, hj, rfl, ho, ho6, hnd, hfr⟩ := hrel
                    have HO := Lib.hid ho
                    have HO6 := Lib.hid ho6
                    have HNJ := Lib.hid hnd
                    have HF := Lib.hid hfr
                    clear ho ho6 hnd hfr
                    by_cases hlj : j < m
                    · have hji : (j : Int) < (m : Int) := by omega
                      have hj0 : (0 : Int) ≤ (j : Int) := by omega
                      obtain ⟨g6, c6', e6, -, -, z6⟩ := own_intC HO6.out (k := j) (by rw [← HM.out]; exact hlj)
                      simp only [Value.slice.injEq] at e6
                      obtain ⟨rfl, -, -⟩ := e6
                      obtain ⟨k, hk⟩ : ∃ k, k = (chR s.R i).getD j 0 := ⟨_, rfl⟩
                      rw [← hk] at z6
                      have hjm : j < (chR s.R i).length := by rw [← HM.out]; exact hlj
                      have HTK : Hid ((chR s.R i).take (j + 1) = (chR s.R i).take j ++ [k]) := Lib.hid (by rw [take_snocD hjm, hk])
                      have hkn : k < n := by
                        rw [HN.out]
                        refine usedB_lt (HCH.out.2.2.1 k ?_)
                        rw [hk, List.getD_eq_getElem?_getD, List.getElem?_eq_getElem hjm]
                        exact List.getElem_mem hjm
                      obtain ⟨g3, e3⟩ := own_pos HO.out (by omega)
                      subst e3
                      obtain ⟨A, hA⟩ : ∃ A, A = allR s.R i ++ (chR s.R i).take j := ⟨_, rfl⟩
                      rw [← hA] at HO HNJ
                      have HA := Lib.hid hA
                      obtain ⟨z, hz⟩ : ∃ z : Nat, z = if k ∈ A then 1 else 0 := ⟨_, rfl⟩
                      have z3 := own_cell0 HO.out (k := k) (by rw [tB_get hkn, ← hz])
                      have z3f := own_freeS HO.out (g := g3) rfl k
                      have hz1 : z ≤ 1 := by rw [hz]; split <;> omega
                      have e2 : IntKind.i64.wrap ((z : Int) + 1) = (z : Int) + 1 := IntWalk.i64_in _ (by omega)
                      have e4 : IntKind.i64.wrap ((j : Int) + 1) = (j : Int) + 1 := IntWalk.i64_in _ (by omega)
                      have hk0 : (0 : Int) ≤ (k : Int) := by omega
                      have hki : (k : Int) < (n : Int) := by omega
                      have HZ := Lib.hid hz
                      have hne : g6 ≠ g3 := fun e => HNE.out g6 rfl (by rw [e]; rfl)
                      have hfs : Fr [g3] wr (wr.setCell ⟨g3, k, none⟩ (.int .i64 ((z : Int) + 1))) := (Fr.refl [g3] _).setCell (by simp) _
                      have hw3 := (own_lt HO.out (g := g3) rfl).1
                      have HO3 := Lib.hid (own_set2 HO.out k (.int .i64 ((z : Int) + 1)))
                      have HO6X := Lib.hid (own_fr HO6.out hfs (fun g' hg' hm => by
                        simp at hm
                        have h1 : g6 = g' := by simpa [Value.ownBlock] using hg'
                        exact hne (h1.trans hm)))
                      have HFX := Lib.hid (HF.out.next hfs (fun t ht hlt => by simp at ht; omega))
                      obtain ⟨ww, hww⟩ : ∃ ww, ww = wr.setCell ⟨g3, k, none⟩ (.int .i64 ((z : Int) + 1)) := ⟨_, rfl⟩
                      have HWW := Lib.hid hww
                      rw [← hww] at HO3 HO6X HFX
                      clear hk hA hz hjm hfs hne hw3
                      go_upto_region 21 with fail
                      rw [← hww]
                      have w6 := (own_intC HO6X.out (k := j) (by rw [← HM.out]; exact hlj))
                      obtain ⟨g6', c6', e6, -, -, w6⟩ := w6
                      simp only [Value.slice.injEq, Option.some.injEq, Addr.mk.injEq] at e6
                      obtain ⟨⟨rfl, -⟩, -, -⟩ := e6
                      have hkk : (chR s.R i).getD j 0 = k := by
                        have h1 := own_intC HO6.out (k := j) (by rw [← HM.out]; exact hlj)
                        obtain ⟨g', c', e', -, -, w7⟩ := h1
                        simp only [Value.slice.injEq, Option.some.injEq, Addr.mk.injEq] at e'
                        obtain ⟨⟨rfl, -⟩, -, -⟩ := e'
                        have h2 := w7.symm.trans z6
                        simp at h2
                        rw [List.getD_eq_getElem?_getD]
                        omega
                      rw [hkk] at w6
                      have w3 := own_cell0 HO3.out (k := k) (v := .int .i64 ((z : Int) + 1)) (by simp [tB_length, hkn])
                      clear z6 z3 z3f hww hkk e2
                      by_cases hz0 : z = 0
                      · have hzi : ¬ (1 : Int) < (z : Int) + 1 := by omega
                        have HKA : Hid (k ∉ A) := Lib.hid (fun hm => by have := HZ.out; rw [if_pos hm] at this; omega)
                        have HZ0 := Lib.hid hz0
                        clear hz0
                        go_wp2_with fail
                        go_roundw
                        case rel =>
                          have hA2 : allR s.R i ++ (chR s.R i).take (j + 1) = A ++ [k] := by rw [HTK.out, HA.out, List.append_assoc]
                          refine ⟨j + 1, by omega, by go_num, ?_, HO6X.out, ?_, HFX.out⟩
                          · rw [hA2, ← tB_set hkn]
                            have h := HO3.out
                            rw [HZ0.out] at h
                            exact h
                          · rw [hA2, List.nodup_append]
                            refine ⟨HNJ.out, by simp, fun a ha b hb e => ?_⟩
                            rw [List.mem_singleton.1 hb] at e
                            exact HKA.out (e ▸ ha)
                        case measure => simp [intOf] <;> omega
                      · have hzi : (1 : Int) < (z : Int) + 1 := by omega
                        have HKA : Hid (k ∈ A) := Lib.hid (by
                          by_cases hm : k ∈ A
                          · exact hm
                          · have := HZ.out; rw [if_neg hm] at this; exact absurd this hz0)
                        have HC := Lib.hid (checkE_101 H32.out HSA.out fun h => by
                          obtain ⟨t, ht⟩ := allR_prefix s.R n (i + 1) (by omega)
                          have h2 := h.2.1
                          rw [← HN.out, ht, allR_succ, ← HU.out, HS1.out] at h2
                          have h3 := (List.nodup_append.1 h2).1
                          simp only [Bool.and_self, if_true] at h3
                          rw [← List.take_append_drop (j + 1) (chR s.R i), HTK.out, ← List.append_assoc, ← List.append_assoc, ← HA.out] at h3
                          have h4 := (List.nodup_append.1 h3).1
                          exact (List.nodup_append.1 h4).2.2 k HKA.out k (by simp) rfl)
                        clear hz0
                        go_wp2_with fail
                        go_ret
                        exact ⟨by rw [HC.out]; rfl, HFX.out⟩
                    · obtain rfl : j = m := by omega
                      have hji : ¬ (j : Int) < (j : Int) := by omega
                      have hA2 : allR s.R (i + 1) = allR s.R i ++ (chR s.R i).take j := by
                        rw [allR_succ, ← HU.out, HS1.out, List.take_of_length_le (by rw [← HM.out]; exact Nat.le_refl _)]
                        rfl
                      have HA2 := Lib.hid hA2
                      clear hA2
                      go_wp2_with fail
                      go_roundw
                      case rel =>
                        refine ⟨i + 1, by omega, by go_num, by rw [HA2.out]; exact HO.out, HF.out, by rw [HA2.out]; exact HNJ.out, fun q hq => ?_⟩
                        rw [startsK_succ, ← HU.out, HS1.out] at hq
                        rcases List.mem_append.1 hq with hq | hq
                        · exact HWS.out q hq
                        · have : q = i := by simpa using hq
                          rw [this]
                          exact HE0.out
                      case measure => simp [intOf] <;> omega
                · have hE0i : (E != 0) = true := by rw [bne_iff_ne]; exact hE0
                  have HE0 : Hid ((walkS s.R (i : Nat)).2 ≠ 0) := Lib.hid (by rw [← HEE.out]; exact hE0)
                  have HC := Lib.hid (checkE_101 H32.out HSA.out fun h => HE0.out (h.1 i (startsK_at HU.out.symm HS1.out (by rw [← HN.out]; exact hlt))))
                  clear hE0
                  go_wp2_with fail
                  go_ret
                  exact ⟨by rw [HC.out]; rfl, HF2.out⟩
              · have h1i : ((st : Int) != 1) = true := by rw [bne_iff_ne]; omega
                have HS1 : Hid (stB s.R i = false) := Lib.hid (by rw [HST.out, beq_eq_false_iff_ne]; exact h1)
                clear h1
                go_wp2_with fail
                go_roundw
                case rel =>
                  have h1 : allR s.R (i + 1) = allR s.R i := by rw [allR_succ, HS1.out]; simp
                  have h2 : startsK s.R (i + 1) = startsK s.R i := by rw [startsK_succ, HS1.out]; simp
                  exact ⟨i + 1, by omega, by go_num, by rw [h1]; exact HO.out, HF.out, by rw [h1]; exact HND.out, by rw [h2]; exact HWS.out⟩
                case measure => simp [intOf] <;> omega
          · obtain rfl : n = i := by omega
            have hii : ¬ (n : Int) < (n : Int) := by omega
            have HWL := Lib.hid HWS.out
            have HNL := Lib.hid HND.out
            have HOL := Lib.hid HO.out
            have HFL := Lib.hid HF.out
            clear HWS HND HO HF hlt hi e1
            go_wp2_with fail
            clear y3
            go_loopw [9] (fun q w3 => ∃ i : Nat, i ≤ n ∧ q = .int .i64 i ∧ w3.ownsRow w.heap.size 3 1 (.slice a3 n c3) n (tB n (allR s.R n)) ∧ Fr [] w w3 ∧ ∀ k, k < i → usedB s.R k = true → k ∈ allR s.R n) (fun q _ => n - (intOf q).toNat)
            case atStart => exact ⟨0, by omega, rfl, HOL.out, HFL.out, fun k hk => absurd hk (by omega)⟩
            case round =>
              clear HOL HFL
              obtain ⟨i, hi, rfl, ho, hfr, hal⟩ := hrel
              have HO := Lib.hid ho
              have HF := Lib.hid hfr
              have HAL := Lib.hid hal
              clear ho hfr hal
              have e1 : IntKind.i64.wrap ((i : Int) + 1) = (i : Int) + 1 := IntWalk.i64_in _ (by omega)
              by_cases hlt : i < n
              · have hii : (i : Int) < (n : Int) := by omega
                have hi0 : (0 : Int) ≤ (i : Int) := by omega
                obtain ⟨g, c, y3, y4⟩ := (HR.out.keep HF.out).recB (k := i) (by rw [← HN.out]; exact hlt)
                rw [← HN.out] at y3
                obtain ⟨u, hu⟩ : ∃ u, u = usedB s.R i := ⟨_, rfl⟩
                rw [← hu] at y4
                have HU := Lib.hid hu
                obtain ⟨g3, e3⟩ := own_pos HO.out (by omega)
                subst e3
                obtain ⟨z, hz⟩ : ∃ z : Nat, z = if i ∈ allR s.R n then 1 else 0 := ⟨_, rfl⟩
                have z3 := own_cell0 HO.out (k := i) (by rw [tB_get hlt, ← hz])
                have HZ := Lib.hid hz
                clear hz hu
                have key : Hid (z = 1 ∨ u = false → ∀ k, k < i + 1 → usedB s.R k = true → k ∈ allR s.R n) := Lib.hid fun h k hk huk => by
                  by_cases hki : k < i
                  · exact HAL.out k hki huk
                  · obtain rfl : k = i := by omega
                    rcases h with h | h
                    · by_cases hm : k ∈ allR s.R n
                      · exact hm
                      · have := HZ.out; rw [if_neg hm] at this; omega
                    · rw [← HU.out, h] at huk; cases huk
                cases u with
                | false =>
                  go_wp2_with fail
                  go_roundw
                  case rel => exact ⟨i + 1, by omega, by go_num, HO.out, HF.out, key.out (.inr rfl)⟩
                  case measure => simp [intOf] <;> omega
                | true =>
                  by_cases hz1 : z = 1
                  · have hzi : ((z : Int) != 1) = false := by rw [hz1]; rfl
                    have HZ1 := Lib.hid hz1
                    clear hz1
                    go_wp2_with fail
                    go_roundw
                    case rel => exact ⟨i + 1, by omega, by go_num, HO.out, HF.out, key.out (.inl HZ1.out)⟩
                    case measure => simp [intOf] <;> omega
                  · have hzi : ((z : Int) != 1) = true := by rw [bne_iff_ne]; omega
                    have HC := Lib.hid (checkE_101 H32.out HSA.out fun h => by
                      have h1 := h.2.2 i HU.out.symm
                      rw [← HN.out] at h1
                      have := HZ.out
                      rw [if_pos h1] at this
                      exact hz1 this)
                    clear hz1
                    go_wp2_with fail
                    go_ret
                    exact ⟨by rw [HC.out]; rfl, HF.out⟩
              · obtain rfl : n = i := by omega
                have hii : ¬ (n : Int) < (n : Int) := by omega
                obtain ⟨ax, cx, y3⟩ := (HR.out.keep HF.out).len3
                rw [← HN.out] at y3
                have HC := Lib.hid (checkE_0 H32.out HSA.out (by
                  rw [← HN.out]
                  exact ⟨HWL.out, HNL.out, fun k hk => HAL.out k (by rw [HN.out]; exact usedB_lt hk) hk⟩))
                go_wp2_with fail
                go_ret
                exact ⟨by rw [HC.out]; rfl, HF.out⟩
  · have h32i : ((s.sz : Int) != 32) = true := by rw [bne_iff_ne]; omega
    have HE : Hid (checkE s = 4) := Lib.hid (by unfold checkE; rw [if_pos h32])
    rw [HE.out]
    go_enter Tryd.func20, Tryd.ntmps20
    go_wp2_with fail
    go_ret
    exact ⟨rfl, Fr.refl _ _⟩
end Go.Proofs.YtkcipbjikimlfaaDoor
