/- Frames: the plain law: a frame's bytes, the frames that bytes begin with. No program. -/
import Derived.Test.YtlckhfjkdahfpaaDoorMem
import Derived.Test.YtlckhfjkdahfpaaDoorU64
namespace Go.Proofs.YtlckhfjkdahfpaaDoor

/-- the check sum of bytes -/
def sm (l : List UInt8) : BitVec 32 := P.update 0#32 l
def sm4 (l : List UInt8) : List UInt8 := by8 4 (sm l).toNat
theorem sm4_length (l : List UInt8) : (sm4 l).length = 4 := by8_length ..
/-- a frame's bytes, without its sum -/
def fH (t : UInt8) (d : List UInt8) : List UInt8 := t :: (by8 4 d.length ++ d)
def fB (t : UInt8) (d : List UInt8) : List UInt8 := fH t d ++ sm4 (fH t d)
theorem fH_length (t : UInt8) (d : List UInt8) : (fH t d).length = d.length + 5 := by
  unfold fH; rw [List.length_cons, List.length_append, by8_length]; omega
theorem fB_length (t : UInt8) (d : List UInt8) : (fB t d).length = d.length + 9 := by
  unfold fB; rw [List.length_append, fH_length, sm4_length]
/-- what stands at the beginning of bytes -/
inductive One where
  | cut
  | long
  | bad
  | ok (t : UInt8) (d : List UInt8)
def sz (l : List UInt8) : Nat := be ((l.drop 1).take 4)
theorem sz_lt (l : List UInt8) : sz l < 4294967296 := by
  have h := be_lt ((l.drop 1).take 4)
  have h1 : 256 ^ ((l.drop 1).take 4).length ≤ 256 ^ 4 := Nat.pow_le_pow_right (by omega) (by rw [List.length_take]; omega)
  have h2 : (256 : Nat) ^ 4 = 4294967296 := by decide
  unfold sz
  omega
/-- the sum that stands behind n bytes and five -/
def su (l : List UInt8) (n : Nat) : BitVec 32 := BitVec.ofNat 32 (be ((l.drop (n + 5)).take 4))
def one (l : List UInt8) : One :=
  if l.length < 5 then .cut
  else if 1048576 < sz l then .long
  else if l.length < sz l + 9 then .cut
  else if (su l (sz l) != sm (l.take (sz l + 5))) = true then .bad
  else .ok (l.getD 0 0) ((l.drop 5).take (sz l))
theorem one_short {l : List UInt8} (h : l.length < 5) : one l = .cut := if_pos h
theorem one_long {l : List UInt8} (h : ¬ l.length < 5) (h1 : 1048576 < sz l) : one l = .long := by unfold one; rw [if_neg h, if_pos h1]
theorem one_cut {l : List UInt8} (h : ¬ l.length < 5) (h1 : ¬ 1048576 < sz l) (h2 : l.length < sz l + 9) : one l = .cut := by unfold one; rw [if_neg h, if_neg h1, if_pos h2]
theorem one_bad {l : List UInt8} (h : ¬ l.length < 5) (h1 : ¬ 1048576 < sz l) (h2 : ¬ l.length < sz l + 9) (h3 : (su l (sz l) != sm (l.take (sz l + 5))) = true) : one l = .bad := by unfold one; rw [if_neg h, if_neg h1, if_neg h2, if_pos h3]
theorem one_ok {l : List UInt8} (h : ¬ l.length < 5) (h1 : ¬ 1048576 < sz l) (h2 : ¬ l.length < sz l + 9) (h3 : (su l (sz l) != sm (l.take (sz l + 5))) = false) : one l = .ok (l.getD 0 0) ((l.drop 5).take (sz l)) := by unfold one; rw [if_neg h, if_neg h1, if_neg h2, if_neg (by rw [h3]; simp)]
theorem data_length {l : List UInt8} (h2 : ¬ l.length < sz l + 9) : ((l.drop 5).take (sz l)).length = sz l := by
  rw [List.length_take, List.length_drop]; omega
/-- the head of a frame that is not cut -/
theorem head_eq {l : List UInt8} (h2 : ¬ l.length < sz l + 9) : fH (l.getD 0 0) ((l.drop 5).take (sz l)) = l.take (sz l + 5) := by
  unfold fH
  rw [data_length h2]
  have h4 : ((l.drop 1).take 4).length = 4 := by rw [List.length_take, List.length_drop]; omega
  have e1 : by8 4 (sz l) = (l.drop 1).take 4 := by
    have := by8_be ((l.drop 1).take 4)
    rw [h4] at this
    exact this
  rw [e1]
  cases l with
  | nil => simp at h2
  | cons x r =>
    rw [show (x :: r).getD 0 0 = x from rfl, show sz (x :: r) + 5 = (sz (x :: r) + 4) + 1 from rfl, List.take_succ_cons]
    congr 1
    rw [show List.drop 1 (x :: r) = r from rfl, show List.drop 5 (x :: r) = r.drop 4 from rfl, Nat.add_comm, List.take_add]
theorem nat32 (a : List UInt8) (h : a.length = 4) : (BitVec.ofNat 32 (be a)).toNat = be a := by
  have := be_lt a
  rw [h] at this
  have h2 : (256 : Nat) ^ 4 = 4294967296 := by decide
  rw [BitVec.toNat_ofNat, Nat.mod_eq_of_lt (by omega)]
/-- the sum is right just where the frame's bytes stand there -/
theorem sum_eq {l : List UInt8} (h2 : ¬ l.length < sz l + 9) : (fB (l.getD 0 0) ((l.drop 5).take (sz l)) == l.take (sz l + 9)) = (su l (sz l) == sm (l.take (sz l + 5))) := by
  unfold fB
  rw [head_eq h2]
  have h4 : ((l.drop (sz l + 5)).take 4).length = 4 := by rw [List.length_take, List.length_drop]; omega
  have e : l.take (sz l + 9) = l.take (sz l + 5) ++ (l.drop (sz l + 5)).take 4 := by
    rw [show sz l + 9 = (sz l + 5) + 4 from rfl, List.take_add]
  rw [e]
  by_cases hs : su l (sz l) = sm (l.take (sz l + 5))
  · rw [hs, beq_self_eq_true, beq_iff_eq]
    congr 1
    unfold sm4
    rw [← hs]
    unfold su
    rw [nat32 _ h4]
    have := by8_be ((l.drop (sz l + 5)).take 4)
    rw [h4] at this
    exact this
  · rw [beq_eq_false_iff_ne.2 hs, beq_eq_false_iff_ne]
    intro e2
    have e3 := List.append_cancel_left e2
    apply hs
    unfold su
    rw [← e3]
    unfold sm4
    rw [be_by8]
    apply BitVec.eq_of_toNat_eq
    rw [BitVec.toNat_ofNat]
    have := (sm (l.take (sz l + 5))).isLt
    have h5 : (256 : Nat) ^ 4 = 4294967296 := by decide
    omega
theorem one_ok_inv {l : List UInt8} {t : UInt8} {d : List UInt8} (h : one l = .ok t d) : t = l.getD 0 0 ∧ d = (l.drop 5).take (sz l) ∧ d.length = sz l ∧ d.length ≤ 1048576 ∧ d.length + 9 ≤ l.length ∧ l.take (d.length + 9) = fB t d := by
  unfold one at h
  split at h
  · cases h
  split at h
  · cases h
  split at h
  · cases h
  split at h
  · cases h
  rename_i h1 h2 h3 h4
  cases h
  have hl := data_length h3
  refine ⟨rfl, rfl, hl, by omega, by omega, ?_⟩
  rw [hl]
  have := sum_eq h3
  have h5 : (su l (sz l) == sm (l.take (sz l + 5))) = true := by
    unfold bne at h4
    simpa using h4
  rw [h5, beq_iff_eq] at this
  exact this.symm
/-- what is packed is read -/
theorem one_pack (t : UInt8) (d r : List UInt8) (h : d.length ≤ 1048576) : one (fB t d ++ r) = .ok t d := by
  have hL : (fB t d ++ r).length = d.length + 9 + r.length := by rw [List.length_append, fB_length]
  have hs : sz (fB t d ++ r) = d.length := by
    unfold sz fB fH
    rw [List.append_assoc, List.cons_append, show ∀ (x : UInt8) (y : List UInt8), (x :: y).drop 1 = y from fun _ _ => rfl, List.append_assoc, List.take_append_of_le_length (by rw [by8_length]; omega), List.take_of_length_le (by rw [by8_length]; omega), be_by8]
    have h5 : (256 : Nat) ^ 4 = 4294967296 := by decide
    omega
  have hd : ((fB t d ++ r).drop 5).take (sz (fB t d ++ r)) = d := by
    rw [hs]
    unfold fB fH
    rw [List.append_assoc, List.cons_append, show ∀ (x : UInt8) (y : List UInt8), (x :: y).drop 5 = y.drop 4 from fun _ _ => rfl, List.append_assoc, List.drop_left' (by rw [by8_length]), List.take_left]
  have h9 : ¬ (fB t d ++ r).length < sz (fB t d ++ r) + 9 := by rw [hs, hL]; omega
  have ht : (fB t d ++ r).getD 0 0 = t := by unfold fB fH; rfl
  have hb := sum_eq h9
  rw [hd, ht, hs, List.take_left' (fB_length t d), beq_self_eq_true] at hb
  have := one_ok (l := fB t d ++ r) (by omega) (by rw [hs]; omega) h9 (by unfold bne; rw [hs, ← hb]; rfl)
  rw [hd, ht] at this
  exact this
theorem one_app {l : List UInt8} {t : UInt8} {d : List UInt8} (h : one l = .ok t d) (c : List UInt8) : one (l ++ c) = .ok t d := by
  obtain ⟨_, _, _, h4, h5, h6⟩ := one_ok_inv h
  rw [← List.take_append_drop (d.length + 9) l, h6, List.append_assoc]
  exact one_pack t d _ h4
/-- the frames with which bytes begin, where they end, and the error's number -/
def runF : Nat → List UInt8 → List (UInt8 × List UInt8) × Nat × Int
  | 0, _ => ([], 0, 0)
  | k + 1, l => match one l with
    | .cut => ([], 0, 0)
    | .long => ([], 0, 1)
    | .bad => ([], 0, 91)
    | .ok t d => ((t, d) :: (runF k (l.drop (d.length + 9))).1, d.length + 9 + (runF k (l.drop (d.length + 9))).2.1, (runF k (l.drop (d.length + 9))).2.2)
def run (l : List UInt8) : List (UInt8 × List UInt8) × Nat × Int := runF l.length l
theorem one_nil : one [] = .cut := rfl
theorem runF_same : ∀ (k j : Nat) (l : List UInt8), l.length ≤ k → l.length ≤ j → runF k l = runF j l
  | 0, 0, _, _, _ => rfl
  | 0, j + 1, l, h, _ => by
    have : l = [] := List.eq_nil_of_length_eq_zero (by omega)
    subst this
    rfl
  | k + 1, 0, l, _, h => by
    have : l = [] := List.eq_nil_of_length_eq_zero (by omega)
    subst this
    rfl
  | k + 1, j + 1, l, h1, h2 => by
    unfold runF
    cases ho : one l with
    | cut => rfl
    | long => rfl
    | bad => rfl
    | ok t d =>
      simp only
      rw [runF_same k j (l.drop (d.length + 9)) (by rw [List.length_drop]; omega) (by rw [List.length_drop]; omega)]
theorem run_cut {l : List UInt8} (h : one l = .cut) : run l = ([], 0, 0) := by
  unfold run
  cases hl : l.length with
  | zero => rfl
  | succ k => unfold runF; rw [h]
theorem len_pos {l : List UInt8} (h : one l ≠ .cut) : ∃ k, l.length = k + 1 := by
  cases l with
  | nil => exact absurd one_nil h
  | cons x r => exact ⟨r.length, rfl⟩
theorem run_long {l : List UInt8} (h : one l = .long) : run l = ([], 0, 1) := by
  obtain ⟨k, hk⟩ := len_pos (l := l) (by rw [h]; simp)
  unfold run
  rw [hk]
  unfold runF
  rw [h]
theorem run_bad {l : List UInt8} (h : one l = .bad) : run l = ([], 0, 91) := by
  obtain ⟨k, hk⟩ := len_pos (l := l) (by rw [h]; simp)
  unfold run
  rw [hk]
  unfold runF
  rw [h]
theorem run_ok {l : List UInt8} {t : UInt8} {d : List UInt8} (h : one l = .ok t d) : run l = ((t, d) :: (run (l.drop (d.length + 9))).1, d.length + 9 + (run (l.drop (d.length + 9))).2.1, (run (l.drop (d.length + 9))).2.2) := by
  obtain ⟨k, hk⟩ := len_pos (l := l) (by rw [h]; simp)
  have e : runF k (l.drop (d.length + 9)) = run (l.drop (d.length + 9)) := runF_same _ _ _ (by rw [List.length_drop]; omega) (Nat.le_refl _)
  show runF l.length l = _
  rw [hk]
  unfold runF
  rw [h]
  simp only [e]
/-- a step of a loop that stands behind some frames -/
theorem run_step {l r : List UInt8} {F : List (UInt8 × List UInt8)} {p : Nat} {t : UInt8} {d : List UInt8} (h : run l = (F ++ (run r).1, p + (run r).2.1, (run r).2.2)) (ho : one r = .ok t d) :
    run l = ((F ++ [(t, d)]) ++ (run (r.drop (d.length + 9))).1, (p + (d.length + 9)) + (run (r.drop (d.length + 9))).2.1, (run (r.drop (d.length + 9))).2.2) := by
  rw [h, run_ok ho]
  simp only [List.append_assoc, List.cons_append, List.nil_append, Nat.add_assoc]
theorem run_end (l : List UInt8) : (run l).2.1 ≤ l.length ∧ 9 * (run l).1.length ≤ (run l).2.1 ∧ ((run l).2.2 = 0 ∨ (run l).2.2 = 1 ∨ (run l).2.2 = 91) := by
  have key : ∀ (n : Nat) (l : List UInt8), l.length ≤ n → (run l).2.1 ≤ l.length ∧ 9 * (run l).1.length ≤ (run l).2.1 ∧ ((run l).2.2 = 0 ∨ (run l).2.2 = 1 ∨ (run l).2.2 = 91) := by
    intro n
    induction n with
    | zero =>
      intro l h
      have : l = [] := List.eq_nil_of_length_eq_zero (by omega)
      subst this
      rw [run_cut one_nil]
      simp
    | succ n ih =>
      intro l h
      cases ho : one l with
      | cut => rw [run_cut ho]; simp
      | long => rw [run_long ho]; simp
      | bad => rw [run_bad ho]; simp
      | ok t d =>
        obtain ⟨_, _, _, _, h5, _⟩ := one_ok_inv ho
        have h6 := ih (l.drop (d.length + 9)) (by rw [List.length_drop]; omega)
        rw [run_ok ho]
        rw [List.length_drop] at h6
        simp only [List.length_cons]
        omega
  exact key l.length l (Nat.le_refl _)
/-- more bytes behind -/
theorem run_app (c : List UInt8) : ∀ (n : Nat) (l : List UInt8), l.length ≤ n → (run l).2.2 = 0 →
    run (l ++ c) = ((run l).1 ++ (run (l.drop (run l).2.1 ++ c)).1, (run l).2.1 + (run (l.drop (run l).2.1 ++ c)).2.1, (run (l.drop (run l).2.1 ++ c)).2.2) := by
  intro n
  induction n with
  | zero =>
    intro l h _
    have : l = [] := List.eq_nil_of_length_eq_zero (by omega)
    subst this
    rw [run_cut one_nil]
    simp
  | succ n ih =>
    intro l h h0
    cases ho : one l with
    | cut => rw [run_cut ho]; simp
    | long => rw [run_long ho] at h0; cases h0
    | bad => rw [run_bad ho] at h0; cases h0
    | ok t d =>
      obtain ⟨_, _, _, _, h5, _⟩ := one_ok_inv ho
      have hr := run_ok ho
      rw [hr] at h0
      have h6 := ih (l.drop (d.length + 9)) (by rw [List.length_drop]; omega) h0
      have ed : (l ++ c).drop (d.length + 9) = l.drop (d.length + 9) ++ c := List.drop_append_of_le_length h5
      rw [run_ok (one_app ho c), ed, h6, hr]
      simp only [List.drop_drop, List.cons_append, Nat.add_assoc]
/-- frames that were packed -/
def packed (F : List (UInt8 × List UInt8)) : List UInt8 := F.flatMap fun f => fB f.1 f.2
theorem run_packed : ∀ (F : List (UInt8 × List UInt8)), (∀ f ∈ F, f.2.length ≤ 1048576) → run (packed F) = (F, (packed F).length, 0)
  | [], _ => by rw [show packed [] = [] from rfl, run_cut one_nil]; rfl
  | f :: F, h => by
    have e : packed (f :: F) = fB f.1 f.2 ++ packed F := by unfold packed; rw [List.flatMap_cons]
    have ho := one_pack f.1 f.2 (packed F) (h f List.mem_cons_self)
    rw [e, run_ok ho, List.drop_left' (fB_length ..), run_packed F fun g hg => h g (List.mem_cons_of_mem _ hg)]
    simp only [List.length_append, fB_length]
/-- all frames, and the error's number -/
def spl (l : List UInt8) : List (UInt8 × List UInt8) × Int :=
  if (run l).2.2 = 0 then (if (run l).2.1 < l.length then ([], 10) else ((run l).1, 0)) else ([], (run l).2.2)
/-- the error's number with which the frames of these bytes end (nought: none) -/
def erF (l : List UInt8) : Int := if (run l).2.2 = 0 then (if (run l).2.1 < l.length then 10 else 0) else (run l).2.2
theorem spl_er (l : List UInt8) : spl l = (if erF l = 0 then (run l).1 else [], erF l) := by
  unfold spl erF
  by_cases h : (run l).2.2 = 0
  · rw [if_pos h]
    simp only [if_pos h]
    by_cases h2 : (run l).2.1 < l.length
    · rw [if_pos h2]; simp only [if_pos h2]; rfl
    · rw [if_neg h2]; simp only [if_neg h2]; rfl
  · rw [if_neg h]
    simp only [if_neg h]
end Go.Proofs.YtlckhfjkdahfpaaDoor

/- Record files: the plain law: what is in use, the lowest free record, the bytes. No program. -/
namespace Go.Proofs.YtlckhfjkdahfpaaDoor

/-- a file's records: what each holds, if it is in use -/
abbrev Recs := List (Option (List UInt8))
def liveN (R : Recs) : Nat := R.countP Option.isSome
theorem liveN_le (R : Recs) : liveN R ≤ R.length := List.countP_le_length
/-- is it in use? -/
def usedR (R : Recs) (id : Int) : Bool := decide (0 ≤ id) && (decide (id < R.length) && (R.getD id.toNat none).isSome)
theorem usedR_neg {R : Recs} {id : Int} (h : id < 0) : usedR R id = false := by unfold usedR; rw [decide_eq_false (by omega)]; rfl
theorem usedR_out {R : Recs} {id : Int} (h : (R.length : Int) ≤ id) : usedR R id = false := by unfold usedR; rw [decide_eq_false (p := id < R.length) (by omega)]; simp
theorem usedR_nat (R : Recs) (k : Nat) : usedR R k = (R.getD k none).isSome := by
  unfold usedR
  by_cases h : k < R.length
  · rw [decide_eq_true (by omega), decide_eq_true (by omega)]; simp
  · rw [decide_eq_false (p := (k : Int) < R.length) (by omega)]
    simp [List.getD_eq_getElem?_getD, List.getElem?_eq_none (by omega : R.length ≤ k)]
theorem usedR_lt {R : Recs} {id : Int} (h : usedR R id = true) : 0 ≤ id ∧ id < R.length ∧ ∃ d, R[id.toNat]? = some (some d) := by
  unfold usedR at h
  simp only [Bool.and_eq_true, decide_eq_true_eq] at h
  obtain ⟨h1, h2, h3⟩ := h
  refine ⟨h1, h2, ?_⟩
  have hlt : id.toNat < R.length := by omega
  rw [List.getD_eq_getElem?_getD, List.getElem?_eq_getElem hlt] at h3
  rw [List.getElem?_eq_getElem hlt]
  simp only [Option.getD_some] at h3
  cases h4 : R[id.toNat] with
  | none => rw [h4] at h3; cases h3
  | some d => exact ⟨d, rfl⟩
/-- the least id that isn't in use -/
def lowest : Recs → Nat
  | some _ :: R => lowest R + 1
  | _ => 0
theorem lowest_le : ∀ (R : Recs), lowest R ≤ R.length
  | [] => Nat.le_refl _
  | none :: _ => Nat.zero_le _
  | some _ :: R => by have := lowest_le R; simp only [lowest, List.length_cons]; omega
theorem lowest_used : ∀ (R : Recs) (i : Nat), i < lowest R → ∃ d, R[i]? = some (some d)
  | some d :: R, 0, _ => ⟨d, rfl⟩
  | some d :: R, i + 1, h => by
    obtain ⟨e, he⟩ := lowest_used R i (by simp only [lowest] at h; omega)
    exact ⟨e, by simpa using he⟩
  | none :: R, i, h => absurd h (by simp [lowest])
  | [], i, h => absurd h (by simp [lowest])
theorem lowest_free : ∀ (R : Recs), R.getD (lowest R) none = none
  | [] => rfl
  | none :: R => rfl
  | some d :: R => by have := lowest_free R; simpa [lowest] using this
theorem lowest_eq {R : Recs} {k : Nat} (h : ∀ i, i < k → ∃ d, R[i]? = some (some d)) (hf : R.getD k none = none) : lowest R = k := by
  have h1 := lowest_free R
  by_cases hlt : lowest R < k
  · obtain ⟨d, hd⟩ := h _ hlt
    rw [List.getD_eq_getElem?_getD, hd] at h1
    cases h1
  · by_cases hgt : k < lowest R
    · obtain ⟨d, hd⟩ := lowest_used R k hgt
      rw [List.getD_eq_getElem?_getD, hd] at hf
      cases hf
    · omega
/-- room is made up to a record -/
def growR (R : Recs) (id : Nat) : Recs := R ++ List.replicate (id + 1 - R.length) none
theorem growR_length (R : Recs) (id : Nat) : (growR R id).length = max R.length (id + 1) := by unfold growR; rw [List.length_append, List.length_replicate]; omega
theorem growR_id {R : Recs} {id : Nat} (h : id < R.length) : growR R id = R := by unfold growR; rw [show id + 1 - R.length = 0 by omega]; simp
theorem growR_step (R : Recs) (id : Nat) (h : R.length ≤ id) : growR (R ++ [none]) id = growR R id := by
  unfold growR
  rw [List.append_assoc, List.length_append, List.length_singleton, show id + 1 - R.length = (id + 1 - (R.length + 1)) + 1 by omega, List.replicate_succ]
  rfl
theorem growR_get (R : Recs) (id i : Nat) : (growR R id).getD i none = R.getD i none := by
  unfold growR
  simp only [List.getD_eq_getElem?_getD]
  by_cases h : i < R.length
  · rw [List.getElem?_append_left h]
  · rw [List.getElem?_append_right (by omega), List.getElem?_eq_none (by omega : R.length ≤ i)]
    by_cases h2 : i - R.length < id + 1 - R.length
    · simp [h2]
    · rw [List.getElem?_eq_none (by simp; omega)]
theorem liveN_append (R S : Recs) : liveN (R ++ S) = liveN R + liveN S := List.countP_append
theorem liveN_nones : ∀ (n : Nat), liveN (List.replicate n none) = 0
  | 0 => rfl
  | n + 1 => by
    have := liveN_nones n
    unfold liveN at this ⊢
    rw [List.replicate_succ, List.countP_cons, this]
    rfl
theorem liveN_grow (R : Recs) (id : Nat) : liveN (growR R id) = liveN R := by unfold growR; rw [liveN_append, liveN_nones]; rfl
theorem liveN_set : ∀ (R : Recs) (k : Nat) (o : Option (List UInt8)), k < R.length → liveN (R.set k o) + (if (R.getD k none).isSome = true then 1 else 0) = liveN R + (if o.isSome = true then 1 else 0)
  | x :: R, 0, o, _ => by
    unfold liveN
    simp only [List.set_cons_zero, List.countP_cons, List.getD_cons_zero]
    omega
  | x :: R, k + 1, o, h => by
    have := liveN_set R k o (by simpa using h)
    unfold liveN at this ⊢
    simp only [List.set_cons_succ, List.countP_cons, List.getD_cons_succ]
    omega
/-- a record is laid down -/
def putR (R : Recs) (id : Nat) (d : List UInt8) : Recs := (growR R id).set id (some d)
theorem putR_length (R : Recs) (id : Nat) (d : List UInt8) : (putR R id d).length = max R.length (id + 1) := by unfold putR; rw [List.length_set, growR_length]
theorem putR_get (R : Recs) (id i : Nat) (d : List UInt8) : (putR R id d).getD i none = if i = id then some d else R.getD i none := by
  have hl := growR_length R id
  unfold putR
  rw [List.getD_eq_getElem?_getD, List.getElem?_set]
  by_cases h : id = i
  · subst h
    rw [if_pos rfl, if_pos rfl, if_pos (by omega)]
    rfl
  · rw [if_neg h, if_neg (fun e => h e.symm), ← List.getD_eq_getElem?_getD, growR_get]
theorem liveN_put (R : Recs) (id : Nat) (d : List UInt8) : liveN (putR R id d) + (if (R.getD id none).isSome = true then 1 else 0) = liveN R + 1 := by
  have hl := growR_length R id
  have := liveN_set (growR R id) id (some d) (by omega)
  rw [growR_get, liveN_grow] at this
  exact this
/-- a record is given back -/
def freeR (R : Recs) (id : Nat) : Recs := R.set id none
theorem liveN_free (R : Recs) (id : Nat) (h : (R.getD id none).isSome = true) : liveN (freeR R id) + 1 = liveN R := by
  have hlt : id < R.length := by
    by_cases hlt : id < R.length
    · exact hlt
    · rw [List.getD_eq_getElem?_getD, List.getElem?_eq_none (by omega)] at h; cases h
  have := liveN_set R id none hlt
  rw [h] at this
  simpa [freeR] using this
/-- every record is of this size -/
def Sized (sz : Nat) (R : Recs) : Prop := ∀ d, some d ∈ R → d.length + 1 = sz
theorem Sized.get {sz : Nat} {R : Recs} (h : Sized sz R) {k : Nat} {d : List UInt8} (hk : R[k]? = some (some d)) : d.length + 1 = sz := h d (List.mem_of_getElem? hk)
theorem Sized.grow {sz : Nat} {R : Recs} (h : Sized sz R) (id : Nat) : Sized sz (growR R id) := fun d hd => by
  unfold growR at hd
  rcases List.mem_append.1 hd with hd | hd
  · exact h d hd
  · rw [List.mem_replicate] at hd; cases hd.2
theorem Sized.set {sz : Nat} {R : Recs} (h : Sized sz R) (k : Nat) (o : Option (List UInt8)) (ho : ∀ d, o = some d → d.length + 1 = sz) : Sized sz (R.set k o) := fun d hd => by
  rcases List.mem_or_eq_of_mem_set hd with hd | hd
  · exact h d hd
  · exact ho d hd.symm
theorem Sized.put {sz : Nat} {R : Recs} (h : Sized sz R) (id : Nat) (d : List UInt8) (hd : d.length + 1 = sz) : Sized sz (putR R id d) := (h.grow id).set id _ fun e he => by cases he; exact hd
theorem Sized.free {sz : Nat} {R : Recs} (h : Sized sz R) (id : Nat) : Sized sz (freeR R id) := h.set id _ fun e he => by cases he
theorem Sized.nil (sz : Nat) : Sized sz [] := fun _ h => (List.not_mem_nil h).elim

/-- 'SREC' -/
def magicB : List UInt8 := [83, 82, 69, 67]
/-- the head's first twelve bytes -/
def h12 (kd vr sz n : Nat) : List UInt8 := magicB ++ (by8 1 kd ++ (by8 1 vr ++ (by8 2 sz ++ by8 4 n)))
theorem h12_length (kd vr sz n : Nat) : (h12 kd vr sz n).length = 12 := by unfold h12; simp [by8_length, magicB]
def headB (kd vr sz n : Nat) : List UInt8 := h12 kd vr sz n ++ sm4 (h12 kd vr sz n)
theorem headB_length (kd vr sz n : Nat) : (headB kd vr sz n).length = 16 := by unfold headB; rw [List.length_append, h12_length, sm4_length]
def recB (sz : Nat) : Option (List UInt8) → List UInt8
  | none => List.replicate sz 0
  | some d => 1 :: d
theorem recB_length {sz : Nat} {o : Option (List UInt8)} (h : ∀ d, o = some d → d.length + 1 = sz) : (recB sz o).length = sz := by
  cases o with
  | none => simp [recB]
  | some d => simpa [recB] using h d rfl
def bodyB (sz : Nat) (R : Recs) : List UInt8 := R.flatMap (recB sz)
theorem bodyB_nil (sz : Nat) : bodyB sz [] = [] := rfl
theorem bodyB_cons (sz : Nat) (o : Option (List UInt8)) (R : Recs) : bodyB sz (o :: R) = recB sz o ++ bodyB sz R := by unfold bodyB; rw [List.flatMap_cons]
theorem bodyB_append (sz : Nat) (R S : Recs) : bodyB sz (R ++ S) = bodyB sz R ++ bodyB sz S := by unfold bodyB; rw [List.flatMap_append]
theorem bodyB_length {sz : Nat} : ∀ {R : Recs}, Sized sz R → (bodyB sz R).length = R.length * sz
  | [], _ => by simp [bodyB]
  | o :: R, h => by
    rw [bodyB_cons, List.length_append, recB_length fun d hd => h d (by rw [hd]; exact List.mem_cons_self), bodyB_length fun d hd => h d (List.mem_cons_of_mem _ hd), List.length_cons, Nat.add_mul, Nat.one_mul, Nat.add_comm]
/-- a file's bytes -/
def fileB (kd vr sz : Nat) (R : Recs) : List UInt8 := headB kd vr sz R.length ++ bodyB sz R
theorem fileB_length {kd vr sz : Nat} {R : Recs} (h : Sized sz R) : (fileB kd vr sz R).length = 16 + R.length * sz := by unfold fileB; rw [List.length_append, headB_length, bodyB_length h]

/-- one record is read -/
inductive OneR where
  | flag
  | free
  | ok (o : Option (List UInt8))
def oneR (r : List UInt8) : OneR :=
  if 1 < (r.getD 0 0).toNat then .flag
  else if (r.getD 0 0).toNat = 1 then .ok (some (r.drop 1))
  else if r.any (· != 0) = true then .free
  else .ok none
def consR (o : Option (List UInt8)) : Except Int Recs → Except Int Recs
  | .error e => .error e
  | .ok R => .ok (o :: R)
def stepR (k : Except Int Recs) : OneR → Except Int Recs
  | .flag => .error 93
  | .free => .error 94
  | .ok o => consR o k
/-- the records that bytes hold, n of them, each of sz bytes; the error's number, if there is one -/
def readR (sz : Nat) : Nat → List UInt8 → Except Int Recs
  | 0, _ => .ok []
  | n + 1, b => stepR (readR sz n (b.drop sz)) (oneR (b.take sz))
theorem oneR_recB {sz : Nat} (hsz : 0 < sz) {o : Option (List UInt8)} (h : ∀ d, o = some d → d.length + 1 = sz) : oneR (recB sz o) = .ok o := by
  cases o with
  | none =>
    have h0 : (recB sz none).getD 0 0 = 0 := by
      simp only [recB, List.getD_eq_getElem?_getD, List.getElem?_replicate, if_pos hsz]
      rfl
    unfold oneR
    rw [h0, if_neg (by decide), if_neg (by decide), if_neg]
    simp [recB]
  | some d =>
    unfold oneR
    rw [show (recB sz (some d)).getD 0 0 = 1 from rfl, if_neg (by decide), if_pos (by decide)]
    rfl
theorem oneR_inv {sz : Nat} {r : List UInt8} (hl : r.length = sz) (hsz : 0 < sz) {o : Option (List UInt8)} (h : oneR r = .ok o) : recB sz o = r ∧ ∀ d, o = some d → d.length + 1 = sz := by
  cases r with
  | nil => simp at hl; omega
  | cons x r =>
    unfold oneR at h
    rw [show (x :: r).getD 0 0 = x from rfl] at h
    split at h
    · cases h
    split at h
    · rename_i h1 h2
      cases h
      refine ⟨?_, fun d hd => by cases hd; simpa using hl⟩
      show 1 :: r = x :: r
      congr 1
      exact (UInt8.toNat_inj.1 h2).symm
    split at h
    · cases h
    · rename_i h1 h2 h3
      cases h
      refine ⟨?_, fun d hd => by cases hd⟩
      rw [Bool.not_eq_true, List.any_eq_false] at h3
      show List.replicate sz 0 = x :: r
      symm
      rw [List.eq_replicate_iff]
      exact ⟨hl, fun y hy => by have := h3 y hy; simpa using this⟩
theorem readR_body {sz : Nat} (hsz : 0 < sz) : ∀ {R : Recs}, Sized sz R → readR sz R.length (bodyB sz R) = .ok R
  | [], _ => rfl
  | o :: R, h => by
    have h1 : ∀ d, o = some d → d.length + 1 = sz := fun d hd => h d (by rw [hd]; exact List.mem_cons_self)
    have hl := recB_length h1
    show stepR (readR sz R.length ((bodyB sz (o :: R)).drop sz)) (oneR ((bodyB sz (o :: R)).take sz)) = _
    rw [bodyB_cons, List.take_left' hl, List.drop_left' hl, oneR_recB hsz h1, readR_body hsz fun d hd => h d (List.mem_cons_of_mem _ hd)]
    rfl
theorem readR_inv {sz : Nat} (hsz : 0 < sz) : ∀ {n : Nat} {b : List UInt8} {R : Recs}, b.length = n * sz → readR sz n b = .ok R → bodyB sz R = b ∧ R.length = n ∧ Sized sz R
  | 0, b, R, hb, h => by
    cases h
    refine ⟨?_, rfl, Sized.nil sz⟩
    rw [Nat.zero_mul] at hb
    rw [List.eq_nil_of_length_eq_zero hb]
    rfl
  | n + 1, b, R, hb, h => by
    have hle : sz ≤ b.length := by rw [hb, Nat.add_mul]; omega
    have h' : stepR (readR sz n (b.drop sz)) (oneR (b.take sz)) = .ok R := h
    cases ho : oneR (b.take sz) with
    | flag => rw [ho] at h'; cases h'
    | free => rw [ho] at h'; cases h'
    | ok o =>
      rw [ho] at h'
      cases hr : readR sz n (b.drop sz) with
      | error e => rw [hr] at h'; cases h'
      | ok R' =>
        rw [hr] at h'
        cases h'
        obtain ⟨h1, h2, h3⟩ := readR_inv hsz (by rw [List.length_drop, hb, Nat.add_mul]; omega) hr
        obtain ⟨h4, h5⟩ := oneR_inv (sz := sz) (by rw [List.length_take]; omega) hsz ho
        refine ⟨by rw [bodyB_cons, h1, h4, List.take_append_drop], by rw [List.length_cons, h2], fun d hd => ?_⟩
        rcases List.mem_cons.1 hd with hd | hd
        · exact h5 d hd.symm
        · exact h3 d hd
/-- what stands in a head -/
def hN (b : List UInt8) (p n : Nat) : Nat := be ((b.drop p).take n)
def fileOf (kd vr sz : Nat) : Except Int Recs → Except Int (Nat × Nat × Nat × Recs)
  | .error e => .error e
  | .ok R => .ok (kd, vr, sz, R)
/-- the file that bytes are, or the error's number -/
def openB (b : List UInt8) : Except Int (Nat × Nat × Nat × Recs) :=
  if b.length < 16 then .error 10
  else if (b.take 4 == magicB) = false then .error 90
  else if (BitVec.ofNat 32 (hN b 12 4) == sm (b.take 12)) = false then .error 91
  else if hN b 6 2 < 2 ∨ 255 < hN b 6 2 then .error 4
  else if 65536 < hN b 8 4 ∨ b.length ≠ 16 + hN b 8 4 * hN b 6 2 then .error 92
  else fileOf (hN b 4 1) (hN b 5 1) (hN b 6 2) (readR (hN b 6 2) (hN b 8 4) (b.drop 16))
theorem readR_err {sz : Nat} : ∀ {n : Nat} {b : List UInt8} {e : Int}, readR sz n b = .error e → e = 93 ∨ e = 94
  | n + 1, b, e, h => by
    have h' : stepR (readR sz n (b.drop sz)) (oneR (b.take sz)) = .error e := h
    cases ho : oneR (b.take sz) with
    | flag => rw [ho] at h'; cases h'; exact .inl rfl
    | free => rw [ho] at h'; cases h'; exact .inr rfl
    | ok o =>
      rw [ho] at h'
      cases hr : readR sz n (b.drop sz) with
      | error e' => rw [hr] at h'; cases h'; exact readR_err hr
      | ok R' => rw [hr] at h'; cases h'
theorem openB_err {b : List UInt8} {e : Int} (h : openB b = .error e) : e = 10 ∨ e = 90 ∨ e = 91 ∨ e = 4 ∨ e = 92 ∨ e = 93 ∨ e = 94 := by
  unfold openB at h
  split at h
  · cases h; omega
  split at h
  · cases h; omega
  split at h
  · cases h; omega
  split at h
  · cases h; omega
  split at h
  · cases h; omega
  cases hr : readR (hN b 6 2) (hN b 8 4) (b.drop 16) with
  | error e' =>
    rw [hr] at h
    cases h
    have := readR_err hr
    omega
  | ok R => rw [hr] at h; cases h
theorem be_lt' (l : List UInt8) (n : Nat) (h : l.length ≤ n) : be l < 256 ^ n := Nat.lt_of_lt_of_le (be_lt l) (Nat.pow_le_pow_right (by omega) h)
theorem hN_lt (b : List UInt8) (p n : Nat) : hN b p n < 256 ^ n := be_lt' _ _ (by rw [List.length_take]; omega)
theorem hN_at {a m r b : List UInt8} (hb : b = a ++ (m ++ r)) : hN b a.length m.length = be m := by
  subst hb
  unfold hN
  rw [List.drop_left' rfl, List.take_left' rfl]
/-- a file's bytes are opened again -/
theorem openB_file {kd vr sz : Nat} {R : Recs} (hk : kd ≤ 255) (hv : vr ≤ 255) (h2 : 2 ≤ sz) (hs : sz ≤ 255) (hR : R.length ≤ 65536) (hS : Sized sz R) : openB (fileB kd vr sz R) = .ok (kd, vr, sz, R) := by
  have hl := fileB_length (kd := kd) (vr := vr) hS
  have e12 : (fileB kd vr sz R).take 12 = h12 kd vr sz R.length := by
    unfold fileB headB
    rw [List.append_assoc, List.take_left' (h12_length ..)]
  have e4 : (fileB kd vr sz R).take 4 = magicB := by
    unfold fileB headB h12
    rw [List.append_assoc, List.append_assoc, List.take_left' (show magicB.length = 4 from rfl)]
  have hf : fileB kd vr sz R = magicB ++ (by8 1 kd ++ (by8 1 vr ++ (by8 2 sz ++ (by8 4 R.length ++ (sm4 (h12 kd vr sz R.length) ++ bodyB sz R))))) := by
    unfold fileB headB
    simp only [h12, List.append_assoc]
  have n4 : hN (fileB kd vr sz R) 4 1 = kd := by
    have := hN_at hf
    rw [by8_length, be_by8] at this
    exact this.trans (Nat.mod_eq_of_lt (by omega))
  have n5 : hN (fileB kd vr sz R) 5 1 = vr := by
    have h : fileB kd vr sz R = (magicB ++ by8 1 kd) ++ (by8 1 vr ++ (by8 2 sz ++ (by8 4 R.length ++ (sm4 (h12 kd vr sz R.length) ++ bodyB sz R)))) := by rw [hf]; simp only [List.append_assoc]
    have := hN_at h
    rw [by8_length, be_by8, List.length_append, by8_length] at this
    exact this.trans (Nat.mod_eq_of_lt (by omega))
  have n6 : hN (fileB kd vr sz R) 6 2 = sz := by
    have h : fileB kd vr sz R = (magicB ++ (by8 1 kd ++ by8 1 vr)) ++ (by8 2 sz ++ (by8 4 R.length ++ (sm4 (h12 kd vr sz R.length) ++ bodyB sz R))) := by rw [hf]; simp only [List.append_assoc]
    have := hN_at h
    rw [by8_length, be_by8, List.length_append, List.length_append, by8_length, by8_length] at this
    exact this.trans (Nat.mod_eq_of_lt (by omega))
  have n8 : hN (fileB kd vr sz R) 8 4 = R.length := by
    have h : fileB kd vr sz R = (magicB ++ (by8 1 kd ++ (by8 1 vr ++ by8 2 sz))) ++ (by8 4 R.length ++ (sm4 (h12 kd vr sz R.length) ++ bodyB sz R)) := by rw [hf]; simp only [List.append_assoc]
    have := hN_at h
    rw [by8_length, be_by8, List.length_append, List.length_append, List.length_append, by8_length, by8_length, by8_length] at this
    exact this.trans (Nat.mod_eq_of_lt (by omega))
  have n12 : hN (fileB kd vr sz R) 12 4 = be (sm4 (h12 kd vr sz R.length)) := by
    have h : fileB kd vr sz R = h12 kd vr sz R.length ++ (sm4 (h12 kd vr sz R.length) ++ bodyB sz R) := by unfold fileB headB; rw [List.append_assoc]
    have := hN_at h
    rwa [h12_length, sm4_length] at this
  have hsum : BitVec.ofNat 32 (be (sm4 (h12 kd vr sz R.length))) = sm (h12 kd vr sz R.length) := by
    unfold sm4
    rw [be_by8]
    apply BitVec.eq_of_toNat_eq
    rw [BitVec.toNat_ofNat]
    have := (sm (h12 kd vr sz R.length)).isLt
    have h5 : (256 : Nat) ^ 4 = 4294967296 := by decide
    omega
  have hd : (fileB kd vr sz R).drop 16 = bodyB sz R := by unfold fileB; rw [List.drop_left' (headB_length ..)]
  unfold openB
  rw [e12, e4, n4, n5, n6, n8, n12, hsum, hd, hl, if_neg (by omega), if_neg (by simp), if_neg (by simp), if_neg (by omega), if_neg (by omega), readR_body (by omega) hS]
  rfl
/-- what was opened -/
theorem openB_inv {b : List UInt8} {kd vr sz : Nat} {R : Recs} (h : openB b = .ok (kd, vr, sz, R)) : fileB kd vr sz R = b ∧ kd ≤ 255 ∧ vr ≤ 255 ∧ 2 ≤ sz ∧ sz ≤ 255 ∧ R.length ≤ 65536 ∧ Sized sz R := by
  unfold openB at h
  split at h
  · cases h
  split at h
  · cases h
  split at h
  · cases h
  split at h
  · cases h
  split at h
  · cases h
  rename_i h1 h2 h3 h4 h5
  cases hr : readR (hN b 6 2) (hN b 8 4) (b.drop 16) with
  | error e => rw [hr] at h; cases h
  | ok R' =>
  rw [hr] at h
  cases h
  have hm : b.take 4 = magicB := by simpa using h2
  have hs : BitVec.ofNat 32 (hN b 12 4) = sm (b.take 12) := by simpa using h3
  have hlen : b.length = 16 + hN b 8 4 * hN b 6 2 := by omega
  obtain ⟨r1, r2, r3⟩ := readR_inv (sz := hN b 6 2) (by omega) (by rw [List.length_drop]; omega) hr
  have l4 := hN_lt b 4 1
  have l5 := hN_lt b 5 1
  have part : ∀ p n, p + n ≤ b.length → by8 n (hN b p n) = (b.drop p).take n := by
    intro p n hp
    have := by8_be ((b.drop p).take n)
    rw [List.length_take, List.length_drop, Nat.min_eq_left (by omega)] at this
    exact this
  have e12 : h12 (hN b 4 1) (hN b 5 1) (hN b 6 2) R.length = b.take 12 := by
    unfold h12
    rw [r2, part 4 1 (by omega), part 5 1 (by omega), part 6 2 (by omega), part 8 4 (by omega), ← hm]
    have : ∀ p n, b.take (p + n) = b.take p ++ (b.drop p).take n := fun p n => List.take_add
    rw [show (12 : Nat) = 8 + 4 from rfl, this 8 4, show (8 : Nat) = 6 + 2 from rfl, this 6 2, show (6 : Nat) = 5 + 1 from rfl, this 5 1, show (5 : Nat) = 4 + 1 from rfl, this 4 1]
    simp only [List.append_assoc]
  refine ⟨?_, by omega, by omega, by omega, by omega, by omega, r3⟩
  unfold fileB headB
  rw [e12, r1]
  have hsm : sm4 (b.take 12) = (b.drop 12).take 4 := by
    unfold sm4
    rw [← hs, BitVec.toNat_ofNat, Nat.mod_eq_of_lt (by have := hN_lt b 12 4; have h5 : (256 : Nat) ^ 4 = 4294967296 := by decide
                                                       omega)]
    exact part 12 4 (by omega)
  rw [hsm, ← List.take_add, List.take_append_drop]
theorem openB_len {b : List UInt8} (h : ∀ e, openB b ≠ .error e) : 16 ≤ b.length := by
  by_cases h1 : b.length < 16
  · exact absurd (by unfold openB; rw [if_pos h1]) (h 10)
  · omega
end Go.Proofs.YtlckhfjkdahfpaaDoor
