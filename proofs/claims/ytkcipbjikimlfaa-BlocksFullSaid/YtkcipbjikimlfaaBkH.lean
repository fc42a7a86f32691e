/- Blocks: Check: the plain law of its counts; what its loops hold, in memory. -/
import Derived.Test.YtkcipbjikimlfaaBkG
import Derived.Test.YtkcipbjikimlfaaRfZ
namespace Go.Proofs.Ytkcipbjikimlfaa
open Go.RowKit Go.Maps

/-! the plain law -/
def usedB (R : Recs) (i : Nat) : Bool := (R.getD i none).isSome
def stB (R : Recs) (i : Nat) : Bool := pSt (recAt R i) == 1
/-- how many name j as next, up to k -/
def cntN (R : Recs) (k j : Nat) : Nat := ((List.range k).filter fun i => usedB R i && (nxtR R i == (j : Int))).length
def namedK (R : Recs) (k j : Nat) : Nat := cntN R k j + (if decide (j < k) && (usedB R j && stB R j) then 1 else 0)
def nextK (R : Recs) (k j : Nat) : Int := if decide (j < k) && usedB R j then nxtR R j else 0
def startsK (R : Recs) (k : Nat) : List Nat := (List.range k).filter fun i => usedB R i && stB R i
theorem cntN_succ (R : Recs) (k j : Nat) : cntN R (k + 1) j = cntN R k j + (if usedB R k && (nxtR R k == (j : Int)) then 1 else 0) := by
  unfold cntN
  rw [List.range_succ, List.filter_append, List.length_append]
  congr 1
  rw [List.filter_cons]
  split <;> rfl
theorem startsK_succ (R : Recs) (k : Nat) : startsK R (k + 1) = startsK R k ++ (if usedB R k && stB R k then [k] else []) := by
  unfold startsK
  rw [List.range_succ, List.filter_append]
  congr 1
  rw [List.filter_cons]
  split <;> rfl
theorem startsK_len (R : Recs) (k : Nat) : (startsK R k).length ≤ k := by
  have h := List.length_filter_le (fun i => usedB R i && stB R i) (List.range k)
  rw [List.length_range] at h
  exact h
theorem cntN_le (R : Recs) (k j : Nat) : cntN R k j ≤ k := by
  have h := List.length_filter_le (fun i => usedB R i && (nxtR R i == (j : Int))) (List.range k)
  rw [List.length_range] at h
  exact h
/-- a record that isn't in use changes nothing -/
theorem namedK_skip {R : Recs} {k : Nat} (h : usedB R k = false) (j : Nat) : namedK R (k + 1) j = namedK R k j := by
  unfold namedK
  rw [cntN_succ, h]
  by_cases hj : j = k
  · subst hj; rw [h]; simp
  · congr 1
    rw [decide_eq_decide.2 (show j < k + 1 ↔ j < k by omega)]
theorem nextK_skip {R : Recs} {k : Nat} (h : usedB R k = false) (j : Nat) : nextK R (k + 1) j = nextK R k j := by
  unfold nextK
  by_cases hj : j = k
  · subst hj; rw [h]; simp
  · rw [decide_eq_decide.2 (show j < k + 1 ↔ j < k by omega)]
theorem startsK_skip {R : Recs} {k : Nat} (h : usedB R k = false) : startsK R (k + 1) = startsK R k := by rw [startsK_succ, h]; simp
/-- between the two of one round -/
def namedM (R : Recs) (k j : Nat) : Nat := namedK R k j + (if nxtR R k == (j : Int) then 1 else 0)
theorem namedK_on {R : Recs} {k : Nat} (h : usedB R k = true) (j : Nat) : namedK R (k + 1) j = namedM R k j + (if decide (j = k) && stB R k then 1 else 0) := by
  unfold namedM namedK
  rw [cntN_succ, h]
  by_cases hj : j = k
  · subst hj
    simp [h]
  · have e : decide (j < k + 1) = decide (j < k) := decide_eq_decide.2 (by omega)
    rw [e, decide_eq_false hj]
    simp
    omega
theorem nextK_on {R : Recs} {k : Nat} (h : usedB R k = true) : nextK R (k + 1) k = nxtR R k ∧ ∀ j, j ≠ k → nextK R (k + 1) j = nextK R k j := by
  refine ⟨by unfold nextK; simp [h], fun j hj => ?_⟩
  unfold nextK
  have e : decide (j < k + 1) = decide (j < k) := decide_eq_decide.2 (by omega)
  rw [e]
theorem namedK_le (R : Recs) (k j : Nat) : namedK R k j ≤ k + 1 := by
  have := cntN_le R k j
  unfold namedK
  split <;> omega
/-- the length of a chain, counted with a purse -/
def chainN (R : Recs) : Nat → Int → Nat
  | 0, _ => 0
  | f + 1, id => if id = -1 then 0 else 1 + chainN R f (nxtR R id.toNat)
def totalN (R : Recs) (n : Nat) : Nat := (((startsK R n)).map fun i => chainN R (n + 1) (i : Nat)).sum
def soundAll (R : Recs) : Bool := (List.range R.length).all fun i => !usedB R i || sndR R i
def namedAll (R : Recs) : Bool := (List.range R.length).all fun i => !usedB R i || decide (namedK R R.length i ≤ 1)
def checkE (s : RFS) : Int := if s.sz ≠ 32 then 4 else if soundAll s.R = false then 100 else if namedAll s.R = false then 101 else if totalN s.R s.R.length ≠ liveN s.R then 101 else 0
theorem cntN_one {R : Recs} {n a j : Nat} (ha : a < n) (hu : usedB R a = true) (hn : nxtR R a = (j : Int)) : 1 ≤ cntN R n j := by
  unfold cntN
  exact List.length_pos_of_mem (List.mem_filter.2 ⟨List.mem_range.2 ha, by rw [hu, hn]; simp⟩)
theorem len_two {l : List Nat} {a b : Nat} (ha : a ∈ l) (hb : b ∈ l) (hne : a ≠ b) : 2 ≤ l.length := by
  match l with
  | [] => exact absurd ha (by simp)
  | [x] => rw [List.mem_singleton] at ha hb; exact absurd (ha.trans hb.symm) hne
  | _ :: _ :: _ => simp
theorem cntN_two {R : Recs} {n a b j : Nat} (ha : a < n) (hb : b < n) (hne : a ≠ b) (hua : usedB R a = true) (hub : usedB R b = true) (hna : nxtR R a = (j : Int)) (hnb : nxtR R b = (j : Int)) : 2 ≤ cntN R n j := by
  unfold cntN
  exact len_two (List.mem_filter.2 ⟨List.mem_range.2 ha, by rw [hua, hna]; simp⟩) (List.mem_filter.2 ⟨List.mem_range.2 hb, by rw [hub, hnb]; simp⟩) hne
/-- a way from i to c: what was met, the last first -/
def PathR (R : Recs) (i : Nat) : List Nat → Int → Prop
  | [], c => c = (i : Int)
  | v :: vs, c => PathR R i vs (v : Int) ∧ nxtR R v = c
theorem PathR.mem {R : Recs} {i : Nat} : ∀ {v : Nat} {vs : List Nat} {c : Int}, PathR R i (v :: vs) c → ∀ u ∈ v :: vs, u = i ∨ ∃ u' ∈ vs, nxtR R u' = (u : Int)
  | v, [], c, h, u, hu => by
    rw [List.mem_singleton] at hu
    subst hu
    have h1 : (u : Int) = (i : Int) := h.1
    exact .inl (by omega)
  | v, v' :: vs, c, h, u, hu => by
    rcases List.mem_cons.1 hu with rfl | hu
    · exact .inr ⟨v', List.mem_cons_self, h.1.2⟩
    · rcases PathR.mem h.1 u hu with h1 | ⟨u', h1, h2⟩
      · exact .inl h1
      · exact .inr ⟨u', List.mem_cons_of_mem _ h1, h2⟩
/-- no way comes back to itself -/
theorem PathR.fresh {R : Recs} {i k : Nat} {vs : List Nat} (h : PathR R i vs (k : Int)) (hd : vs.Nodup) (hu : ∀ u ∈ vs, u < R.length ∧ usedB R u = true) (hs : usedB R i = true ∧ stB R i = true ∧ i < R.length) (hk : namedK R R.length k ≤ 1) : k ∉ vs := by
  intro hm
  match vs, h, hd, hu, hm with
  | v :: vs, h, hd, hu, hm =>
    have hv := hu v List.mem_cons_self
    rcases PathR.mem h k hm with h1 | ⟨u', h1, h2⟩
    · subst h1
      have h3 := cntN_one hv.1 hv.2 h.2
      unfold namedK at hk
      rw [if_pos (by rw [hs.1, hs.2.1]; simpa using hs.2.2)] at hk
      omega
    · have hu' := hu u' (List.mem_cons_of_mem _ h1)
      have hne : v ≠ u' := fun e => (List.nodup_cons.1 hd).1 (e ▸ h1)
      have h3 := cntN_two hv.1 hu'.1 hne hv.2 hu'.2 h.2 h2
      unfold namedK at hk
      omega
theorem chainN_end (R : Recs) (f : Nat) : chainN R f (-1) = 0 := by cases f <;> rfl
theorem chainN_on (R : Recs) (f k : Nat) : chainN R (f + 1) (k : Int) = 1 + chainN R f (nxtR R k) := by
  rw [chainN, if_neg (by omega)]
  simp
theorem chainN_le (R : Recs) : ∀ (f : Nat) (c : Int), chainN R f c ≤ f
  | 0, _ => Nat.le_refl _
  | f + 1, c => by
    have := chainN_le R f (nxtR R c.toNat)
    rw [chainN]
    split <;> omega
theorem usedB_nat (R : Recs) (k : Nat) : usedB R k = usedR R (k : Int) := by rw [usedR_nat]; rfl
theorem usedB_lt {R : Recs} {k : Nat} (h : usedB R k = true) : k < R.length := by
  rw [usedB_nat] at h
  have := (usedR_lt h).2.1
  omega
theorem soundAll_at {R : Recs} (h : soundAll R = true) {k : Nat} (hu : usedB R k = true) : sndR R k = true := by
  have := List.all_eq_true.1 h k (List.mem_range.2 (usedB_lt hu))
  rw [hu] at this
  simpa using this
theorem namedAll_at {R : Recs} (h : namedAll R = true) {k : Nat} (hu : usedB R k = true) : namedK R R.length k ≤ 1 := by
  have := List.all_eq_true.1 h k (List.mem_range.2 (usedB_lt hu))
  rw [hu] at this
  simpa using this
theorem startsK_mem {R : Recs} {n i : Nat} (h : i ∈ startsK R n) : usedB R i = true ∧ stB R i = true ∧ i < n := by
  unfold startsK at h
  obtain ⟨h1, h2⟩ := List.mem_filter.1 h
  rw [Bool.and_eq_true] at h2
  exact ⟨h2.1, h2.2, List.mem_range.1 h1⟩
theorem sum_take {l : List Nat} {i : Nat} (h : i < l.length) : (l.take (i + 1)).sum = (l.take i).sum + l.getD i 0 := by
  rw [take_snocD h, List.sum_append]
  simp
end Go.Proofs.Ytkcipbjikimlfaa
