/- Blocks: Check: the plain law of its counts; what its loops hold, in memory. -/
import Derived.Test.YtkcipbjikimlfaaDoorBkG
import Derived.Test.YtkcipbjikimlfaaDoorRfZ
namespace Go.Proofs.YtkcipbjikimlfaaDoor
open Go.RowKit Go.Maps

/-! the plain law -/
def usedB (R : Recs) (i : Nat) : Bool := (R.getD i none).isSome
def stB (R : Recs) (i : Nat) : Bool := pSt (recAt R i) == 1
/-- how many name j as next, up to k -/
def cntN (R : Recs) (k j : Nat) : Nat := ((List.range k).filter fun i => usedB R i && (nxtR R i == (j : Int))).length
def namedK (R : Recs) (k j : Nat) : Nat := cntN R k j + (if decide (j < k) && (usedB R j && stB R j) then 1 else 0)
def nextK (R : Recs) (k j : Nat) : Int := if decide (j < k) && usedB R j then nxtR R j else 0
def startsK (R : Recs) (k : Nat) : List Nat := (List.range k).filter fun i => usedB R i && stB R i
theorem cntN_succ (R : Recs) (k j : Nat) : cntN R (k + 1) j = cntN R k j + (if usedB R k && (nxtR R k == (j : Int)) then 1 else 0) := by
  unfold cntN
  rw [List.range_succ, List.filter_append, List.length_append]
  congr 1
  rw [List.filter_cons]
  split <;> rfl
theorem startsK_succ (R : Recs) (k : Nat) : startsK R (k + 1) = startsK R k ++ (if usedB R k && stB R k then [k] else []) := by
  unfold startsK
  rw [List.range_succ, List.filter_append]
  congr 1
  rw [List.filter_cons]
  split <;> rfl
theorem startsK_len (R : Recs) (k : Nat) : (startsK R k).length ≤ k := by
  have h := List.length_filter_le (fun i => usedB R i && stB R i) (List.range k)
  rw [List.length_range] at h
  exact h
theorem cntN_le (R : Recs) (k j : Nat) : cntN R k j ≤ k := by
  have h := List.length_filter_le (fun i => usedB R i && (nxtR R i == (j : Int))) (List.range k)
  rw [List.length_range] at h
  exact h
/-- a record that isn't in use changes nothing -/
theorem namedK_skip {R : Recs} {k : Nat} (h : usedB R k = false) (j : Nat) : namedK R (k + 1) j = namedK R k j := by
  unfold namedK
  rw [cntN_succ, h]
  by_cases hj : j = k
  · subst hj; rw [h]; simp
  · congr 1
    rw [decide_eq_decide.2 (show j < k + 1 ↔ j < k by omega)]
theorem nextK_skip {R : Recs} {k : Nat} (h : usedB R k = false) (j : Nat) : nextK R (k + 1) j = nextK R k j := by
  unfold nextK
  by_cases hj : j = k
  · subst hj; rw [h]; simp
  · rw [decide_eq_decide.2 (show j < k + 1 ↔ j < k by omega)]
theorem startsK_skip {R : Recs} {k : Nat} (h : usedB R k = false) : startsK R (k + 1) = startsK R k := by rw [startsK_succ, h]; simp
/-- between the two of one round -/
def namedM (R : Recs) (k j : Nat) : Nat := namedK R k j + (if nxtR R k == (j : Int) then 1 else 0)
theorem namedK_on {R : Recs} {k : Nat} (h : usedB R k = true) (j : Nat) : namedK R (k + 1) j = namedM R k j + (if decide (j = k) && stB R k then 1 else 0) := by
  unfold namedM namedK
  rw [cntN_succ, h]
  by_cases hj : j = k
  · subst hj
    simp [h]
  · have e : decide (j < k + 1) = decide (j < k) := decide_eq_decide.2 (by omega)
    rw [e, decide_eq_false hj]
    simp
    omega
theorem nextK_on {R : Recs} {k : Nat} (h : usedB R k = true) : nextK R (k + 1) k = nxtR R k ∧ ∀ j, j ≠ k → nextK R (k + 1) j = nextK R k j := by
  refine ⟨by unfold nextK; simp [h], fun j hj => ?_⟩
  unfold nextK
  have e : decide (j < k + 1) = decide (j < k) := decide_eq_decide.2 (by omega)
  rw [e]
theorem namedK_le (R : Recs) (k j : Nat) : namedK R k j ≤ k + 1 := by
  have := cntN_le R k j
  unfold namedK
  split <;> omega
/-- the length of a chain, counted with a purse -/
def chainN (R : Recs) : Nat → Int → Nat
  | 0, _ => 0
  | f + 1, id => if id = -1 then 0 else 1 + chainN R f (nxtR R id.toNat)
def totalN (R : Recs) (n : Nat) : Nat := (((startsK R n)).map fun i => chainN R (n + 1) (i : Nat)).sum
def soundAll (R : Recs) : Bool := (List.range R.length).all fun i => !usedB R i || sndR R i
def namedAll (R : Recs) : Bool := (List.range R.length).all fun i => !usedB R i || decide (namedK R R.length i ≤ 1)
def checkE (s : RFS) : Int := if s.sz ≠ 32 then 4 else if soundAll s.R = false then 100 else if namedAll s.R = false then 101 else if totalN s.R s.R.length ≠ liveN s.R then 101 else 0
theorem cntN_one {R : Recs} {n a j : Nat} (ha : a < n) (hu : usedB R a = true) (hn : nxtR R a = (j : Int)) : 1 ≤ cntN R n j := by
  unfold cntN
  exact List.length_pos_of_mem (List.mem_filter.2 ⟨List.mem_range.2 ha, by rw [hu, hn]; simp⟩)
theorem len_two {l : List Nat} {a b : Nat} (ha : a ∈ l) (hb : b ∈ l) (hne : a ≠ b) : 2 ≤ l.length := by
  match l with
  | [] => exact absurd ha (by simp)
  | [x] => rw [List.mem_singleton] at ha hb; exact absurd (ha.trans hb.symm) hne
  | _ :: _ :: _ => simp
theorem cntN_two {R : Recs} {n a b j : Nat} (ha : a < n) (hb : b < n) (hne : a ≠ b) (hua : usedB R a = true) (hub : usedB R b = true) (hna : nxtR R a = (j : Int)) (hnb : nxtR R b = (j : Int)) : 2 ≤ cntN R n j := by
  unfold cntN
  exact len_two (List.mem_filter.2 ⟨List.mem_range.2 ha, by rw [hua, hna]; simp⟩) (List.mem_filter.2 ⟨List.mem_range.2 hb, by rw [hub, hnb]; simp⟩) hne
/-- a way from i to c: what was met, the last first -/
def PathR (R : Recs) (i : Nat) : List Nat → Int → Prop
  | [], c => c = (i : Int)
  | v :: vs, c => PathR R i vs (v : Int) ∧ nxtR R v = c
theorem PathR.mem {R : Recs} {i : Nat} : ∀ {v : Nat} {vs : List Nat} {c : Int}, PathR R i (v :: vs) c → ∀ u ∈ v :: vs, u = i ∨ ∃ u' ∈ vs, nxtR R u' = (u : Int)
  | v, [], c, h, u, hu => by
    rw [List.mem_singleton] at hu
    subst hu
    have h1 : (u : Int) = (i : Int) := h.1
    exact .inl (by omega)
  | v, v' :: vs, c, h, u, hu => by
    rcases List.mem_cons.1 hu with rfl | hu
    · exact .inr ⟨v', List.mem_cons_self, h.1.2⟩
    · rcases PathR.mem h.1 u hu with h1 | ⟨u', h1, h2⟩
      · exact .inl h1
      · exact .inr ⟨u', List.mem_cons_of_mem _ h1, h2⟩
/-- no way comes back to itself -/
theorem PathR.fresh {R : Recs} {i k : Nat} {vs : List Nat} (h : PathR R i vs (k : Int)) (hd : vs.Nodup) (hu : ∀ u ∈ vs, u < R.length ∧ usedB R u = true) (hs : usedB R i = true ∧ stB R i = true ∧ i < R.length) (hk : namedK R R.length k ≤ 1) : k ∉ vs := by
  intro hm
  match vs, h, hd, hu, hm with
  | v :: vs, h, hd, hu, hm =>
    have hv := hu v List.mem_cons_self
    rcases PathR.mem h k hm with h1 | ⟨u', h1, h2⟩
    · subst h1
      have h3 := cntN_one hv.1 hv.2 h.2
      unfold namedK at hk
      rw [if_pos (by rw [hs.1, hs.2.1]; simpa using hs.2.2)] at hk
      omega
    · have hu' := hu u' (List.mem_cons_of_mem _ h1)
      have hne : v ≠ u' := fun e => (List.nodup_cons.1 hd).1 (e ▸ h1)
      have h3 := cntN_two hv.1 hu'.1 hne hv.2 hu'.2 h.2 h2
      unfold namedK at hk
      omega
theorem chainN_end (R : Recs) (f : Nat) : chainN R f (-1) = 0 := by cases f <;> rfl
theorem chainN_on (R : Recs) (f k : Nat) : chainN R (f + 1) (k : Int) = 1 + chainN R f (nxtR R k) := by
  rw [chainN, if_neg (by omega)]
  simp
theorem chainN_le (R : Recs) : ∀ (f : Nat) (c : Int), chainN R f c ≤ f
  | 0, _ => Nat.le_refl _
  | f + 1, c => by
    have := chainN_le R f (nxtR R c.toNat)
    rw [chainN]
    split <;> omega
theorem usedB_nat (R : Recs) (k : Nat) : usedB R k = usedR R (k : Int) := by rw [usedR_nat]; rfl
theorem usedB_lt {R : Recs} {k : Nat} (h : usedB R k = true) : k < R.length := by
  rw [usedB_nat] at h
  have := (usedR_lt h).2.1
  omega
theorem soundAll_at {R : Recs} (h : soundAll R = true) {k : Nat} (hu : usedB R k = true) : sndR R k = true := by
  have := List.all_eq_true.1 h k (List.mem_range.2 (usedB_lt hu))
  rw [hu] at this
  simpa using this
theorem namedAll_at {R : Recs} (h : namedAll R = true) {k : Nat} (hu : usedB R k = true) : namedK R R.length k ≤ 1 := by
  have := List.all_eq_true.1 h k (List.mem_range.2 (usedB_lt hu))
  rw [hu] at this
  simpa using this
theorem startsK_mem {R : Recs} {n i : Nat} (h : i ∈ startsK R n) : usedB R i = true ∧ stB R i = true ∧ i < n := by
  unfold startsK at h
  obtain ⟨h1, h2⟩ := List.mem_filter.1 h
  rw [Bool.and_eq_true] at h2
  exact ⟨h2.1, h2.2, List.mem_range.1 h1⟩
theorem sum_take {l : List Nat} {i : Nat} (h : i < l.length) : (l.take (i + 1)).sum = (l.take i).sum + l.getD i 0 := by
  rw [take_snocD h, List.sum_append]
  simp
end Go.Proofs.YtkcipbjikimlfaaDoor

/- Blocks: Check: what its loops hold, in memory. -/
namespace Go.Proofs.YtkcipbjikimlfaaDoor
open Go.RowKit Go.Maps

structure ChP where
  l : Nat
  D : Nat
  RZ : Nat
  X1 : Nat
  X3 : Nat
  X4 : Nat
  X5 : Nat
  Bn : Nat
  g3 : Nat
  g5 : Nat
def ChP.fix (P : ChP) : List Nat := [P.l, P.D, P.RZ, P.X1, P.X3, P.X4, P.X5, P.Bn, P.g3, P.g5]
structure ChS (P : ChP) (w : World) (B : Nat) (bs : List Nat) (p n : Nat) (s : RFS) (o : Obj) (e : Int) (f3 f5 : Nat → Int) (v4 : Value) (L : List Nat) (A : World) : Prop where
  lp : A.heap[P.l]? = some o
  df : A.heap[P.D]? = some (.deferred (some []))
  rz : A.heap[P.RZ]? = some (.cells #[.int .i64 e] 28)
  x1 : A.heap[P.X1]? = some (.cells #[.pointer (some ⟨p, 0, none⟩)] 24)
  x3 : A.heap[P.X3]? = some (.cells #[.slice (some ⟨P.g3, 0, none⟩) n n] 30)
  x4 : A.heap[P.X4]? = some (.cells #[v4] 30)
  x5 : A.heap[P.X5]? = some (.cells #[.slice (some ⟨P.g5, 0, none⟩) n n] 30)
  bn : A.heap[P.Bn]? = some (.cells #[.pointer (some ⟨p, 0, none⟩)] 24)
  a3 : Arr A P.g3 n f3
  a5 : Arr A P.g5 n f5
  st : A.ownsRow w.heap.size 3 1 v4 L.length (L.map fun (k : Nat) => Value.int .i64 k)
  so : ∀ i ∈ P.fix, v4.ownBlock ≠ some i
  rf : RF B bs A p s
  fr : Fr [] w A
  nd : P.fix.Nodup
  new : ∀ i ∈ P.fix, w.heap.size ≤ i
  old : ∀ i ∈ bs, i < w.heap.size
theorem ChS.lt {P : ChP} {w : World} {B : Nat} {bs : List Nat} {p n : Nat} {s : RFS} {o : Obj} {e : Int} {f3 f5 : Nat → Int} {v4 : Value} {L : List Nat} {A : World} (h : ChS P w B bs p n s o e f3 f5 v4 L A) : ∀ i ∈ P.fix, i < A.heap.size := by
  intro i hi
  have key : ∀ {i : Nat} {o : Obj}, A.heap[i]? = some o → i < A.heap.size := fun h => (Array.getElem?_eq_some_iff.1 h).1
  simp only [ChP.fix, List.mem_cons, List.not_mem_nil, or_false] at hi
  rcases hi with rfl | rfl | rfl | rfl | rfl | rfl | rfl | rfl | rfl | rfl
  · exact key h.lp
  · exact key h.df
  · exact key h.rz
  · exact key h.x1
  · exact key h.x3
  · exact key h.x4
  · exact key h.x5
  · exact key h.bn
  · exact h.a3.lt
  · exact h.a5.lt
theorem ChS.step {S : List Nat} {P : ChP} {w : World} {B : Nat} {bs : List Nat} {p n : Nat} {s : RFS} {o : Obj} {e : Int} {f3 f5 : Nat → Int} {v4 : Value} {L : List Nat} {A A' : World} (h : ChS P w B bs p n s o e f3 f5 v4 L A) (hf : Fr S A A') (hS : ∀ i ∈ P.fix, i ∉ S) (hv : ∀ i, v4.ownBlock = some i → i ∉ S) (hb : ∀ i ∈ S, w.heap.size ≤ i) : ChS P w B bs p n s o e f3 f5 v4 L A' :=
  ⟨hf.obj h.lp (hS _ (by simp [ChP.fix])), hf.obj h.df (hS _ (by simp [ChP.fix])), hf.obj h.rz (hS _ (by simp [ChP.fix])), hf.obj h.x1 (hS _ (by simp [ChP.fix])), hf.obj h.x3 (hS _ (by simp [ChP.fix])), hf.obj h.x4 (hS _ (by simp [ChP.fix])), hf.obj h.x5 (hS _ (by simp [ChP.fix])), hf.obj h.bn (hS _ (by simp [ChP.fix])), h.a3.fr hf (hS _ (by simp [ChP.fix])), h.a5.fr hf (hS _ (by simp [ChP.fix])), own_fr h.st hf hv, h.so, h.rf.fr hf (fun i hi hm => by have := h.old i hi; have := hb i hm; omega), h.fr.next hf (fun i hi hlt => by have := hb i hi; omega), h.nd, h.new, h.old⟩
theorem ChS.keep {P : ChP} {w : World} {B : Nat} {bs : List Nat} {p n : Nat} {s : RFS} {o : Obj} {e : Int} {f3 f5 : Nat → Int} {v4 : Value} {L : List Nat} {A A' : World} (h : ChS P w B bs p n s o e f3 f5 v4 L A) (hf : Fr [] A A') : ChS P w B bs p n s o e f3 f5 v4 L A' := h.step hf (by simp) (by simp) (by simp)
theorem ChP.nd {P : ChP} (h : P.fix.Nodup) : (P.D ≠ P.l ∧ P.RZ ≠ P.l ∧ P.X1 ≠ P.l ∧ P.X3 ≠ P.l ∧ P.X4 ≠ P.l ∧ P.X5 ≠ P.l ∧ P.Bn ≠ P.l ∧ P.g3 ≠ P.l ∧ P.g5 ≠ P.l) ∧ (P.l ≠ P.RZ ∧ P.D ≠ P.RZ ∧ P.X1 ≠ P.RZ ∧ P.X3 ≠ P.RZ ∧ P.X4 ≠ P.RZ ∧ P.X5 ≠ P.RZ ∧ P.Bn ≠ P.RZ ∧ P.g3 ≠ P.RZ ∧ P.g5 ≠ P.RZ) ∧ (P.l ≠ P.g3 ∧ P.D ≠ P.g3 ∧ P.RZ ≠ P.g3 ∧ P.X1 ≠ P.g3 ∧ P.X3 ≠ P.g3 ∧ P.X4 ≠ P.g3 ∧ P.X5 ≠ P.g3 ∧ P.Bn ≠ P.g3 ∧ P.g5 ≠ P.g3) ∧ (P.l ≠ P.g5 ∧ P.D ≠ P.g5 ∧ P.RZ ≠ P.g5 ∧ P.X1 ≠ P.g5 ∧ P.X3 ≠ P.g5 ∧ P.X4 ≠ P.g5 ∧ P.X5 ≠ P.g5 ∧ P.Bn ≠ P.g5 ∧ P.g3 ≠ P.g5) ∧ (P.l ≠ P.X4 ∧ P.D ≠ P.X4 ∧ P.RZ ≠ P.X4 ∧ P.X1 ≠ P.X4 ∧ P.X3 ≠ P.X4 ∧ P.X5 ≠ P.X4 ∧ P.Bn ≠ P.X4 ∧ P.g3 ≠ P.X4 ∧ P.g5 ≠ P.X4) := by
  simp only [ChP.fix, List.nodup_cons, List.mem_cons, List.not_mem_nil, or_false, not_or] at h
  obtain ⟨⟨n01, n02, n03, n04, n05, n06, n07, n08, n09⟩, ⟨n12, n13, n14, n15, n16, n17, n18, n19⟩, ⟨n23, n24, n25, n26, n27, n28, n29⟩, ⟨n34, n35, n36, n37, n38, n39⟩, ⟨n45, n46, n47, n48, n49⟩, ⟨n56, n57, n58, n59⟩, ⟨n67, n68, n69⟩, ⟨n78, n79⟩, n89, _⟩ := h
  exact ⟨⟨(Ne.symm n01), (Ne.symm n02), (Ne.symm n03), (Ne.symm n04), (Ne.symm n05), (Ne.symm n06), (Ne.symm n07), (Ne.symm n08), (Ne.symm n09)⟩, ⟨n02, n12, (Ne.symm n23), (Ne.symm n24), (Ne.symm n25), (Ne.symm n26), (Ne.symm n27), (Ne.symm n28), (Ne.symm n29)⟩, ⟨n08, n18, n28, n38, n48, n58, n68, n78, (Ne.symm n89)⟩, ⟨n09, n19, n29, n39, n49, n59, n69, n79, n89⟩, ⟨n05, n15, n25, n35, n45, (Ne.symm n56), (Ne.symm n57), (Ne.symm n58), (Ne.symm n59)⟩⟩
theorem ChS.putL {P : ChP} {w : World} {B : Nat} {bs : List Nat} {p n : Nat} {s : RFS} {o : Obj} {e : Int} {f3 f5 : Nat → Int} {v4 : Value} {L : List Nat} {A : World} (h : ChS P w B bs p n s o e f3 f5 v4 L A) {o' : Obj} : ChS P w B bs p n s o' e f3 f5 v4 L (A.putObj P.l o') := by
  have hf : Fr [P.l] A (A.putObj P.l o') := (Fr.refl _ _).putObj (by simp) _
  obtain ⟨⟨m0, m1, m2, m3, m4, m5, m6, m7, m8⟩, _⟩ := ChP.nd h.nd
  exact ⟨World.putObj_heap_same (Array.getElem?_eq_some_iff.1 h.lp).1, hf.obj h.df (by simpa using m0), hf.obj h.rz (by simpa using m1), hf.obj h.x1 (by simpa using m2), hf.obj h.x3 (by simpa using m3), hf.obj h.x4 (by simpa using m4), hf.obj h.x5 (by simpa using m5), hf.obj h.bn (by simpa using m6), h.a3.fr hf (by simpa using m7), h.a5.fr hf (by simpa using m8), own_fr h.st hf (fun i hi hm => by simp at hm; subst hm; exact h.so _ (by simp [ChP.fix]) hi), h.so, h.rf.fr hf (fun i hi hm => by have := h.old i hi; simp at hm; have := h.new P.l (by simp [ChP.fix]); omega), h.fr.next hf (fun i hi hlt => by simp at hi; have := h.new P.l (by simp [ChP.fix]); omega), h.nd, h.new, h.old⟩
theorem ChS.setE {P : ChP} {w : World} {B : Nat} {bs : List Nat} {p n : Nat} {s : RFS} {o : Obj} {e : Int} {f3 f5 : Nat → Int} {v4 : Value} {L : List Nat} {A : World} (h : ChS P w B bs p n s o e f3 f5 v4 L A) (e' : Int) : ChS P w B bs p n s o e' f3 f5 v4 L (A.setCell ⟨P.RZ, 0, none⟩ (.int .i64 e')) := by
  have hf : Fr [P.RZ] A (A.setCell ⟨P.RZ, 0, none⟩ (.int .i64 e')) := (Fr.refl _ _).setCell (by simp) _
  obtain ⟨_, ⟨m0, m1, m2, m3, m4, m5, m6, m7, m8⟩, _⟩ := ChP.nd h.nd
  exact ⟨hf.obj h.lp (by simpa using m0), hf.obj h.df (by simpa using m1), by rw [heap_setCell_same _ _ 0 _ _ _ h.rz]; rfl, hf.obj h.x1 (by simpa using m2), hf.obj h.x3 (by simpa using m3), hf.obj h.x4 (by simpa using m4), hf.obj h.x5 (by simpa using m5), hf.obj h.bn (by simpa using m6), h.a3.fr hf (by simpa using m7), h.a5.fr hf (by simpa using m8), own_fr h.st hf (fun i hi hm => by simp at hm; subst hm; exact h.so _ (by simp [ChP.fix]) hi), h.so, h.rf.fr hf (fun i hi hm => by have := h.old i hi; simp at hm; have := h.new P.RZ (by simp [ChP.fix]); omega), h.fr.next hf (fun i hi hlt => by simp at hi; have := h.new P.RZ (by simp [ChP.fix]); omega), h.nd, h.new, h.old⟩
theorem ChS.set3 {P : ChP} {w : World} {B : Nat} {bs : List Nat} {p n : Nat} {s : RFS} {o : Obj} {e : Int} {f3 f5 : Nat → Int} {v4 : Value} {L : List Nat} {A : World} (h : ChS P w B bs p n s o e f3 f5 v4 L A) {f3' : Nat → Int} (k : Nat) (x : Int) (hk : f3' k = x) (ho : ∀ j, j < n → j ≠ k → f3' j = f3 j) : ChS P w B bs p n s o e f3' f5 v4 L (A.setCell ⟨P.g3, k, none⟩ (.int .i64 x)) := by
  have hf : Fr [P.g3] A (A.setCell ⟨P.g3, k, none⟩ (.int .i64 x)) := (Fr.refl _ _).setCell (by simp) _
  obtain ⟨_, _, ⟨m0, m1, m2, m3, m4, m5, m6, m7, m8⟩, _⟩ := ChP.nd h.nd
  exact ⟨hf.obj h.lp (by simpa using m0), hf.obj h.df (by simpa using m1), hf.obj h.rz (by simpa using m2), hf.obj h.x1 (by simpa using m3), hf.obj h.x3 (by simpa using m4), hf.obj h.x4 (by simpa using m5), hf.obj h.x5 (by simpa using m6), hf.obj h.bn (by simpa using m7), h.a3.set k x hk ho, h.a5.fr hf (by simpa using m8), own_fr h.st hf (fun i hi hm => by simp at hm; subst hm; exact h.so _ (by simp [ChP.fix]) hi), h.so, h.rf.fr hf (fun i hi hm => by have := h.old i hi; simp at hm; have := h.new P.g3 (by simp [ChP.fix]); omega), h.fr.next hf (fun i hi hlt => by simp at hi; have := h.new P.g3 (by simp [ChP.fix]); omega), h.nd, h.new, h.old⟩
theorem ChS.set5 {P : ChP} {w : World} {B : Nat} {bs : List Nat} {p n : Nat} {s : RFS} {o : Obj} {e : Int} {f3 f5 : Nat → Int} {v4 : Value} {L : List Nat} {A : World} (h : ChS P w B bs p n s o e f3 f5 v4 L A) {f5' : Nat → Int} (k : Nat) (x : Int) (hk : f5' k = x) (ho : ∀ j, j < n → j ≠ k → f5' j = f5 j) : ChS P w B bs p n s o e f3 f5' v4 L (A.setCell ⟨P.g5, k, none⟩ (.int .i64 x)) := by
  have hf : Fr [P.g5] A (A.setCell ⟨P.g5, k, none⟩ (.int .i64 x)) := (Fr.refl _ _).setCell (by simp) _
  obtain ⟨_, _, _, ⟨m0, m1, m2, m3, m4, m5, m6, m7, m8⟩, _⟩ := ChP.nd h.nd
  exact ⟨hf.obj h.lp (by simpa using m0), hf.obj h.df (by simpa using m1), hf.obj h.rz (by simpa using m2), hf.obj h.x1 (by simpa using m3), hf.obj h.x3 (by simpa using m4), hf.obj h.x4 (by simpa using m5), hf.obj h.x5 (by simpa using m6), hf.obj h.bn (by simpa using m7), h.a3.fr hf (by simpa using m8), h.a5.set k x hk ho, own_fr h.st hf (fun i hi hm => by simp at hm; subst hm; exact h.so _ (by simp [ChP.fix]) hi), h.so, h.rf.fr hf (fun i hi hm => by have := h.old i hi; simp at hm; have := h.new P.g5 (by simp [ChP.fix]); omega), h.fr.next hf (fun i hi hlt => by simp at hi; have := h.new P.g5 (by simp [ChP.fix]); omega), h.nd, h.new, h.old⟩
theorem ChS.app4 {P : ChP} {w : World} {B : Nat} {bs : List Nat} {p n : Nat} {s : RFS} {o : Obj} {e : Int} {f3 f5 : Nat → Int} {v4 : Value} {L : List Nat} {A A' : World} {v' : Value} {k : Nat} (h : ChS P w B bs p n s o e f3 f5 v4 L A) (ha : App A A' w.heap.size 3 1 v4 v' L.length 1 (L.map fun (k : Nat) => Value.int .i64 k) [.int .i64 (k : Nat)]) : ChS P w B bs p n s o e f3 f5 v' (L ++ [k]) (A'.setCell ⟨P.X4, 0, none⟩ v') := by
  have hf1 := app_frZ ha
  have hs : ∀ i ∈ P.fix, i ∉ v4.ownBlock.toList := fun i hi hm => h.so i hi (by simpa using hm)
  have hf2 : Fr [P.X4] A' (A'.setCell ⟨P.X4, 0, none⟩ v') := (Fr.refl _ _).setCell (by simp) _
  have hx := hf1.obj h.x4 (hs _ (by simp [ChP.fix]))
  have hso : ∀ i ∈ P.fix, v'.ownBlock ≠ some i := fun i hi e1 => by
    rcases ha.blk with hb | ⟨g, hb, hg⟩
    · exact h.so i hi (hb ▸ e1)
    · rw [hb] at e1
      cases e1
      have := h.lt i hi
      omega
  have hvw : ∀ i, i ∈ v4.ownBlock.toList → w.heap.size ≤ i := fun i hi => (own_lt h.st (g := i) (by simpa using hi)).1
  obtain ⟨_, _, _, _, ⟨m0, m1, m2, m3, m4, m5, m6, m7, m8⟩⟩ := ChP.nd h.nd
  have k2 : ∀ {g : Nat} {ob : Obj}, g ∈ P.fix → g ≠ P.X4 → A.heap[g]? = some ob → (A'.setCell ⟨P.X4, 0, none⟩ v').heap[g]? = some ob := fun hg hne hh => hf2.obj (hf1.obj hh (hs _ hg)) (by simpa using hne)
  refine ⟨k2 (by simp [ChP.fix]) m0 h.lp, k2 (by simp [ChP.fix]) m1 h.df, k2 (by simp [ChP.fix]) m2 h.rz, k2 (by simp [ChP.fix]) m3 h.x1, k2 (by simp [ChP.fix]) m4 h.x3, by rw [heap_setCell_same _ _ 0 _ _ _ hx]; rfl, k2 (by simp [ChP.fix]) m5 h.x5, k2 (by simp [ChP.fix]) m6 h.bn, (h.a3.fr hf1 (hs _ (by simp [ChP.fix]))).fr hf2 (by simpa using m7), (h.a5.fr hf1 (hs _ (by simp [ChP.fix]))).fr hf2 (by simpa using m8), ?_, hso, ?_, ?_, h.nd, h.new, h.old⟩
  · rw [List.length_append, List.map_append]
    exact own_fr ha.own hf2 (fun i hi hm => by simp at hm; subst hm; exact hso _ (by simp [ChP.fix]) hi)
  · exact (h.rf.fr hf1 (fun i hi hm => by have := h.old i hi; have := hvw i hm; omega)).fr hf2 (fun i hi hm => by have := h.old i hi; simp at hm; have := h.new P.X4 (by simp [ChP.fix]); omega)
  · exact (h.fr.next hf1 (fun i hi hlt => by have := hvw i hi; omega)).next hf2 (fun i hi hlt => by simp at hi; have := h.new P.X4 (by simp [ChP.fix]); omega)
end Go.Proofs.YtkcipbjikimlfaaDoor
