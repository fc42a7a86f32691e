/- Frames: the plain law: a frame's bytes, the frames that bytes begin with. No program. -/
import Derived.Test.YtkgfdcagninphaaDoorPlain
import Derived.Test.YtkgfdcagninphaaDoorU64
namespace Go.Proofs.YtkgfdcagninphaaDoor

/-- the check sum of bytes -/
def sm (l : List UInt8) : BitVec 32 := P.update 0#32 l
def sm4 (l : List UInt8) : List UInt8 := by8 4 (sm l).toNat
theorem sm4_length (l : List UInt8) : (sm4 l).length = 4 := by8_length ..
/-- a frame's bytes, without its sum -/
def fH (t : UInt8) (d : List UInt8) : List UInt8 := t :: (by8 4 d.length ++ d)
def fB (t : UInt8) (d : List UInt8) : List UInt8 := fH t d ++ sm4 (fH t d)
theorem fH_length (t : UInt8) (d : List UInt8) : (fH t d).length = d.length + 5 := by
  unfold fH; rw [List.length_cons, List.length_append, by8_length]; omega
theorem fB_length (t : UInt8) (d : List UInt8) : (fB t d).length = d.length + 9 := by
  unfold fB; rw [List.length_append, fH_length, sm4_length]
/-- what stands at the beginning of bytes -/
inductive One where
  | cut
  | long
  | bad
  | ok (t : UInt8) (d : List UInt8)
def sz (l : List UInt8) : Nat := be ((l.drop 1).take 4)
theorem sz_lt (l : List UInt8) : sz l < 4294967296 := by
  have h := be_lt ((l.drop 1).take 4)
  have h1 : 256 ^ ((l.drop 1).take 4).length ≤ 256 ^ 4 := Nat.pow_le_pow_right (by omega) (by rw [List.length_take]; omega)
  have h2 : (256 : Nat) ^ 4 = 4294967296 := by decide
  unfold sz
  omega
/-- the sum that stands behind n bytes and five -/
def su (l : List UInt8) (n : Nat) : BitVec 32 := BitVec.ofNat 32 (be ((l.drop (n + 5)).take 4))
def one (l : List UInt8) : One :=
  if l.length < 5 then .cut
  else if 1048576 < sz l then .long
  else if l.length < sz l + 9 then .cut
  else if (su l (sz l) != sm (l.take (sz l + 5))) = true then .bad
  else .ok (l.getD 0 0) ((l.drop 5).take (sz l))
theorem one_short {l : List UInt8} (h : l.length < 5) : one l = .cut := if_pos h
theorem one_long {l : List UInt8} (h : ¬ l.length < 5) (h1 : 1048576 < sz l) : one l = .long := by unfold one; rw [if_neg h, if_pos h1]
theorem one_cut {l : List UInt8} (h : ¬ l.length < 5) (h1 : ¬ 1048576 < sz l) (h2 : l.length < sz l + 9) : one l = .cut := by unfold one; rw [if_neg h, if_neg h1, if_pos h2]
theorem one_bad {l : List UInt8} (h : ¬ l.length < 5) (h1 : ¬ 1048576 < sz l) (h2 : ¬ l.length < sz l + 9) (h3 : (su l (sz l) != sm (l.take (sz l + 5))) = true) : one l = .bad := by unfold one; rw [if_neg h, if_neg h1, if_neg h2, if_pos h3]
theorem one_ok {l : List UInt8} (h : ¬ l.length < 5) (h1 : ¬ 1048576 < sz l) (h2 : ¬ l.length < sz l + 9) (h3 : (su l (sz l) != sm (l.take (sz l + 5))) = false) : one l = .ok (l.getD 0 0) ((l.drop 5).take (sz l)) := by unfold one; rw [if_neg h, if_neg h1, if_neg h2, if_neg (by rw [h3]; simp)]
theorem data_length {l : List UInt8} (h2 : ¬ l.length < sz l + 9) : ((l.drop 5).take (sz l)).length = sz l := by
  rw [List.length_take, List.length_drop]; omega
/-- the head of a frame that is not cut -/
theorem head_eq {l : List UInt8} (h2 : ¬ l.length < sz l + 9) : fH (l.getD 0 0) ((l.drop 5).take (sz l)) = l.take (sz l + 5) := by
  unfold fH
  rw [data_length h2]
  have h4 : ((l.drop 1).take 4).length = 4 := by rw [List.length_take, List.length_drop]; omega
  have e1 : by8 4 (sz l) = (l.drop 1).take 4 := by
    have := by8_be ((l.drop 1).take 4)
    rw [h4] at this
    exact this
  rw [e1]
  cases l with
  | nil => simp at h2
  | cons x r =>
    rw [show (x :: r).getD 0 0 = x from rfl, show sz (x :: r) + 5 = (sz (x :: r) + 4) + 1 from rfl, List.take_succ_cons]
    congr 1
    rw [show List.drop 1 (x :: r) = r from rfl, show List.drop 5 (x :: r) = r.drop 4 from rfl, Nat.add_comm, List.take_add]
theorem nat32 (a : List UInt8) (h : a.length = 4) : (BitVec.ofNat 32 (be a)).toNat = be a := by
  have := be_lt a
  rw [h] at this
  have h2 : (256 : Nat) ^ 4 = 4294967296 := by decide
  rw [BitVec.toNat_ofNat, Nat.mod_eq_of_lt (by omega)]
/-- the sum is right just where the frame's bytes stand there -/
theorem sum_eq {l : List UInt8} (h2 : ¬ l.length < sz l + 9) : (fB (l.getD 0 0) ((l.drop 5).take (sz l)) == l.take (sz l + 9)) = (su l (sz l) == sm (l.take (sz l + 5))) := by
  unfold fB
  rw [head_eq h2]
  have h4 : ((l.drop (sz l + 5)).take 4).length = 4 := by rw [List.length_take, List.length_drop]; omega
  have e : l.take (sz l + 9) = l.take (sz l + 5) ++ (l.drop (sz l + 5)).take 4 := by
    rw [show sz l + 9 = (sz l + 5) + 4 from rfl, List.take_add]
  rw [e]
  by_cases hs : su l (sz l) = sm (l.take (sz l + 5))
  · rw [hs, beq_self_eq_true, beq_iff_eq]
    congr 1
    unfold sm4
    rw [← hs]
    unfold su
    rw [nat32 _ h4]
    have := by8_be ((l.drop (sz l + 5)).take 4)
    rw [h4] at this
    exact this
  · rw [beq_eq_false_iff_ne.2 hs, beq_eq_false_iff_ne]
    intro e2
    have e3 := List.append_cancel_left e2
    apply hs
    unfold su
    rw [← e3]
    unfold sm4
    rw [be_by8]
    apply BitVec.eq_of_toNat_eq
    rw [BitVec.toNat_ofNat]
    have := (sm (l.take (sz l + 5))).isLt
    have h5 : (256 : Nat) ^ 4 = 4294967296 := by decide
    omega
theorem one_ok_inv {l : List UInt8} {t : UInt8} {d : List UInt8} (h : one l = .ok t d) : t = l.getD 0 0 ∧ d = (l.drop 5).take (sz l) ∧ d.length = sz l ∧ d.length ≤ 1048576 ∧ d.length + 9 ≤ l.length ∧ l.take (d.length + 9) = fB t d := by
  unfold one at h
  split at h
  · cases h
  split at h
  · cases h
  split at h
  · cases h
  split at h
  · cases h
  rename_i h1 h2 h3 h4
  cases h
  have hl := data_length h3
  refine ⟨rfl, rfl, hl, by omega, by omega, ?_⟩
  rw [hl]
  have := sum_eq h3
  have h5 : (su l (sz l) == sm (l.take (sz l + 5))) = true := by
    unfold bne at h4
    simpa using h4
  rw [h5, beq_iff_eq] at this
  exact this.symm
/-- what is packed is read -/
theorem one_pack (t : UInt8) (d r : List UInt8) (h : d.length ≤ 1048576) : one (fB t d ++ r) = .ok t d := by
  have hL : (fB t d ++ r).length = d.length + 9 + r.length := by rw [List.length_append, fB_length]
  have hs : sz (fB t d ++ r) = d.length := by
    unfold sz fB fH
    rw [List.append_assoc, List.cons_append, show ∀ (x : UInt8) (y : List UInt8), (x :: y).drop 1 = y from fun _ _ => rfl, List.append_assoc, List.take_append_of_le_length (by rw [by8_length]; omega), List.take_of_length_le (by rw [by8_length]; omega), be_by8]
    have h5 : (256 : Nat) ^ 4 = 4294967296 := by decide
    omega
  have hd : ((fB t d ++ r).drop 5).take (sz (fB t d ++ r)) = d := by
    rw [hs]
    unfold fB fH
    rw [List.append_assoc, List.cons_append, show ∀ (x : UInt8) (y : List UInt8), (x :: y).drop 5 = y.drop 4 from fun _ _ => rfl, List.append_assoc, List.drop_left' (by rw [by8_length]), List.take_left]
  have h9 : ¬ (fB t d ++ r).length < sz (fB t d ++ r) + 9 := by rw [hs, hL]; omega
  have ht : (fB t d ++ r).getD 0 0 = t := by unfold fB fH; rfl
  have hb := sum_eq h9
  rw [hd, ht, hs, List.take_left' (fB_length t d), beq_self_eq_true] at hb
  have := one_ok (l := fB t d ++ r) (by omega) (by rw [hs]; omega) h9 (by unfold bne; rw [hs, ← hb]; rfl)
  rw [hd, ht] at this
  exact this
theorem one_app {l : List UInt8} {t : UInt8} {d : List UInt8} (h : one l = .ok t d) (c : List UInt8) : one (l ++ c) = .ok t d := by
  obtain ⟨_, _, _, h4, h5, h6⟩ := one_ok_inv h
  rw [← List.take_append_drop (d.length + 9) l, h6, List.append_assoc]
  exact one_pack t d _ h4
/-- the frames with which bytes begin, where they end, and the error's number -/
def runF : Nat → List UInt8 → List (UInt8 × List UInt8) × Nat × Int
  | 0, _ => ([], 0, 0)
  | k + 1, l => match one l with
    | .cut => ([], 0, 0)
    | .long => ([], 0, 1)
    | .bad => ([], 0, 91)
    | .ok t d => ((t, d) :: (runF k (l.drop (d.length + 9))).1, d.length + 9 + (runF k (l.drop (d.length + 9))).2.1, (runF k (l.drop (d.length + 9))).2.2)
def run (l : List UInt8) : List (UInt8 × List UInt8) × Nat × Int := runF l.length l
theorem one_nil : one [] = .cut := rfl
theorem runF_same : ∀ (k j : Nat) (l : List UInt8), l.length ≤ k → l.length ≤ j → runF k l = runF j l
  | 0, 0, _, _, _ => rfl
  | 0, j + 1, l, h, _ => by
    have : l = [] := List.eq_nil_of_length_eq_zero (by omega)
    subst this
    rfl
  | k + 1, 0, l, _, h => by
    have : l = [] := List.eq_nil_of_length_eq_zero (by omega)
    subst this
    rfl
  | k + 1, j + 1, l, h1, h2 => by
    unfold runF
    cases ho : one l with
    | cut => rfl
    | long => rfl
    | bad => rfl
    | ok t d =>
      simp only
      rw [runF_same k j (l.drop (d.length + 9)) (by rw [List.length_drop]; omega) (by rw [List.length_drop]; omega)]
theorem run_cut {l : List UInt8} (h : one l = .cut) : run l = ([], 0, 0) := by
  unfold run
  cases hl : l.length with
  | zero => rfl
  | succ k => unfold runF; rw [h]
theorem len_pos {l : List UInt8} (h : one l ≠ .cut) : ∃ k, l.length = k + 1 := by
  cases l with
  | nil => exact absurd one_nil h
  | cons x r => exact ⟨r.length, rfl⟩
theorem run_long {l : List UInt8} (h : one l = .long) : run l = ([], 0, 1) := by
  obtain ⟨k, hk⟩ := len_pos (l := l) (by rw [h]; simp)
  unfold run
  rw [hk]
  unfold runF
  rw [h]
theorem run_bad {l : List UInt8} (h : one l = .bad) : run l = ([], 0, 91) := by
  obtain ⟨k, hk⟩ := len_pos (l := l) (by rw [h]; simp)
  unfold run
  rw [hk]
  unfold runF
  rw [h]
theorem run_ok {l : List UInt8} {t : UInt8} {d : List UInt8} (h : one l = .ok t d) : run l = ((t, d) :: (run (l.drop (d.length + 9))).1, d.length + 9 + (run (l.drop (d.length + 9))).2.1, (run (l.drop (d.length + 9))).2.2) := by
  obtain ⟨k, hk⟩ := len_pos (l := l) (by rw [h]; simp)
  have e : runF k (l.drop (d.length + 9)) = run (l.drop (d.length + 9)) := runF_same _ _ _ (by rw [List.length_drop]; omega) (Nat.le_refl _)
  show runF l.length l = _
  rw [hk]
  unfold runF
  rw [h]
  simp only [e]
/-- a step of a loop that stands behind some frames -/
theorem run_step {l r : List UInt8} {F : List (UInt8 × List UInt8)} {p : Nat} {t : UInt8} {d : List UInt8} (h : run l = (F ++ (run r).1, p + (run r).2.1, (run r).2.2)) (ho : one r = .ok t d) :
    run l = ((F ++ [(t, d)]) ++ (run (r.drop (d.length + 9))).1, (p + (d.length + 9)) + (run (r.drop (d.length + 9))).2.1, (run (r.drop (d.length + 9))).2.2) := by
  rw [h, run_ok ho]
  simp only [List.append_assoc, List.cons_append, List.nil_append, Nat.add_assoc]
theorem run_end (l : List UInt8) : (run l).2.1 ≤ l.length ∧ 9 * (run l).1.length ≤ (run l).2.1 ∧ ((run l).2.2 = 0 ∨ (run l).2.2 = 1 ∨ (run l).2.2 = 91) := by
  have key : ∀ (n : Nat) (l : List UInt8), l.length ≤ n → (run l).2.1 ≤ l.length ∧ 9 * (run l).1.length ≤ (run l).2.1 ∧ ((run l).2.2 = 0 ∨ (run l).2.2 = 1 ∨ (run l).2.2 = 91) := by
    intro n
    induction n with
    | zero =>
      intro l h
      have : l = [] := List.eq_nil_of_length_eq_zero (by omega)
      subst this
      rw [run_cut one_nil]
      simp
    | succ n ih =>
      intro l h
      cases ho : one l with
      | cut => rw [run_cut ho]; simp
      | long => rw [run_long ho]; simp
      | bad => rw [run_bad ho]; simp
      | ok t d =>
        obtain ⟨_, _, _, _, h5, _⟩ := one_ok_inv ho
        have h6 := ih (l.drop (d.length + 9)) (by rw [List.length_drop]; omega)
        rw [run_ok ho]
        rw [List.length_drop] at h6
        simp only [List.length_cons]
        omega
  exact key l.length l (Nat.le_refl _)
/-- more bytes behind -/
theorem run_app (c : List UInt8) : ∀ (n : Nat) (l : List UInt8), l.length ≤ n → (run l).2.2 = 0 →
    run (l ++ c) = ((run l).1 ++ (run (l.drop (run l).2.1 ++ c)).1, (run l).2.1 + (run (l.drop (run l).2.1 ++ c)).2.1, (run (l.drop (run l).2.1 ++ c)).2.2) := by
  intro n
  induction n with
  | zero =>
    intro l h _
    have : l = [] := List.eq_nil_of_length_eq_zero (by omega)
    subst this
    rw [run_cut one_nil]
    simp
  | succ n ih =>
    intro l h h0
    cases ho : one l with
    | cut => rw [run_cut ho]; simp
    | long => rw [run_long ho] at h0; cases h0
    | bad => rw [run_bad ho] at h0; cases h0
    | ok t d =>
      obtain ⟨_, _, _, _, h5, _⟩ := one_ok_inv ho
      have hr := run_ok ho
      rw [hr] at h0
      have h6 := ih (l.drop (d.length + 9)) (by rw [List.length_drop]; omega) h0
      have ed : (l ++ c).drop (d.length + 9) = l.drop (d.length + 9) ++ c := List.drop_append_of_le_length h5
      rw [run_ok (one_app ho c), ed, h6, hr]
      simp only [List.drop_drop, List.cons_append, Nat.add_assoc]
/-- frames that were packed -/
def packed (F : List (UInt8 × List UInt8)) : List UInt8 := F.flatMap fun f => fB f.1 f.2
theorem run_packed : ∀ (F : List (UInt8 × List UInt8)), (∀ f ∈ F, f.2.length ≤ 1048576) → run (packed F) = (F, (packed F).length, 0)
  | [], _ => by rw [show packed [] = [] from rfl, run_cut one_nil]; rfl
  | f :: F, h => by
    have e : packed (f :: F) = fB f.1 f.2 ++ packed F := by unfold packed; rw [List.flatMap_cons]
    have ho := one_pack f.1 f.2 (packed F) (h f List.mem_cons_self)
    rw [e, run_ok ho, List.drop_left' (fB_length ..), run_packed F fun g hg => h g (List.mem_cons_of_mem _ hg)]
    simp only [List.length_append, fB_length]
/-- all frames, and the error's number -/
def spl (l : List UInt8) : List (UInt8 × List UInt8) × Int :=
  if (run l).2.2 = 0 then (if (run l).2.1 < l.length then ([], 10) else ((run l).1, 0)) else ([], (run l).2.2)
/-- the error's number with which the frames of these bytes end (nought: none) -/
def erF (l : List UInt8) : Int := if (run l).2.2 = 0 then (if (run l).2.1 < l.length then 10 else 0) else (run l).2.2
theorem spl_er (l : List UInt8) : spl l = (if erF l = 0 then (run l).1 else [], erF l) := by
  unfold spl erF
  by_cases h : (run l).2.2 = 0
  · rw [if_pos h]
    simp only [if_pos h]
    by_cases h2 : (run l).2.1 < l.length
    · rw [if_pos h2]; simp only [if_pos h2]; rfl
    · rw [if_neg h2]; simp only [if_neg h2]; rfl
  · rw [if_neg h]
    simp only [if_neg h]
end Go.Proofs.YtkgfdcagninphaaDoor
