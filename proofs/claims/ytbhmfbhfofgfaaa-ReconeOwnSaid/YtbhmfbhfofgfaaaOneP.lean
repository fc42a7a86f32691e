/- The plain law of the labels that a codec carries: a fold over eight numbers is right just where the labels are. No program. -/
import Derived.Test.YtbhmfbhfofgfaaaRecNL
namespace Go.Proofs.Ytbhmfbhfofgfaaa
open Go.RowKit

/-- what the codec keeps while it goes over labels -/
structure LS where
  bad : Bool
  ended : Bool
  last : Int
def labS (s : LS) (n : Int) : LS := ⟨(s.bad || !inB n (-1) 200) || (decide (0 ≤ n) && (decide (n ≤ s.last) || s.ended)), s.ended || decide (n < 0), n⟩
def labRun (s : LS) (ns : List Int) : LS := ns.foldl labS s
theorem labRun_snoc (s : LS) (ns : List Int) (n : Int) : labRun s (ns ++ [n]) = labS (labRun s ns) n := by
  unfold labRun; rw [List.foldl_append]; rfl
theorem labRun_cons (s : LS) (n : Int) (ns : List Int) : labRun s (n :: ns) = labRun (labS s n) ns := rfl
theorem labRun_bad : ∀ (ns : List Int) (s : LS), s.bad = true → (labRun s ns).bad = true
  | [], _, h => h
  | n :: ns, s, h => by
    rw [labRun_cons]
    exact labRun_bad ns _ (by simp [labS, h])
/-- the number of a byte -/
def labN (c : UInt8) : Int := (c.toNat : Int) - 1
theorem labN_zero : labN 0 = -1 := rfl
theorem labN_pos {c : UInt8} (h : (c != 0) = true) : 0 ≤ labN c := by
  have h1 : c.toNat ≠ 0 := by
    intro e
    have : c = 0 := UInt8.toNat_inj.1 (by rw [e]; rfl)
    subst this
    simp at h
  unfold labN; omega
theorem labRun_ended : ∀ (cs : List UInt8) (b : Bool) (p : Int), (labRun ⟨b, true, p⟩ (cs.map labN)).bad = (b || !(cs.all (· == 0)))
  | [], b, p => by simp [labRun]
  | c :: cs, b, p => by
    rw [List.map_cons, labRun_cons]
    cases hc : (c == 0)
    · have hn := labN_pos (c := c) (by unfold bne; rw [hc]; rfl)
      rw [labRun_bad _ _ (by simp [labS, hn])]
      simp [hc]
    · have e : c = 0 := by simpa using hc
      subst e
      have h1 : labS ⟨b, true, p⟩ (labN 0) = ⟨b, true, -1⟩ := by rw [labN_zero]; simp [labS, inB]
      rw [h1, labRun_ended cs]
      simp
theorem labRun_open : ∀ (cs : List UInt8) (b : Bool) (p : Int), -1 ≤ p → (labRun ⟨b, false, p⟩ (cs.map labN)).bad = (b || !(gapOk cs && chain p (labsOf cs)))
  | [], b, p, _ => by simp [labRun, gapOk, labsOf, chain]
  | c :: cs, b, p, hp => by
    rw [List.map_cons, labRun_cons]
    cases hc : (c == 0)
    · have hb : (c != 0) = true := by unfold bne; rw [hc]; rfl
      have hn := labN_pos hb
      have h1 : labS ⟨b, false, p⟩ (labN c) = ⟨b || !inB (labN c) (p + 1) 200, false, labN c⟩ := by
        have h2 : ((b || !inB (labN c) (-1) 200) || (decide (0 ≤ labN c) && (decide (labN c ≤ p) || false))) = (b || !inB (labN c) (p + 1) 200) := by
          unfold inB
          cases b
          · by_cases h3 : labN c ≤ p
            · simp [h3, hn, show ¬ (p + 1 ≤ labN c) by omega]
            · simp [h3, hn, show -1 ≤ labN c by omega, show p + 1 ≤ labN c by omega]
          · simp
        unfold labS
        simp only
        rw [h2]
        simp [show ¬ labN c < 0 by omega]
      rw [h1, labRun_open cs _ _ (by omega)]
      have e1 : gapOk (c :: cs) = gapOk cs := by unfold gapOk; rw [List.dropWhile_cons, hb]; rfl
      have e2 : labsOf (c :: cs) = labN c :: labsOf cs := by unfold labsOf; rw [List.takeWhile_cons, hb]; rfl
      rw [e1, e2, chain]
      cases b <;> cases inB (labN c) (p + 1) 200 <;> cases gapOk cs <;> simp
    · have e : c = 0 := by simpa using hc
      subst e
      have h1 : labS ⟨b, false, p⟩ (labN 0) = ⟨b, true, -1⟩ := by rw [labN_zero]; simp [labS, inB]
      rw [h1, labRun_ended cs]
      have e1 : gapOk (0 :: cs) = cs.all (· == 0) := by simp [gapOk]
      have e2 : labsOf (0 :: cs) = [] := by simp [labsOf]
      rw [e1, e2, chain]
      simp
/-- eight bytes are right labels just where the fold says so -/
theorem labRun_read (cs : List UInt8) (b : Bool) (h : cs.length = 8) : (labRun ⟨b, false, -1⟩ (cs.map labN)).bad = (b || !(gapOk cs && labFine (labsOf cs))) := by
  rw [labRun_open cs b (-1) (by omega)]
  have := labsOf_length cs
  unfold labFine
  rw [decide_eq_true (show (labsOf cs).length ≤ 8 by omega), Bool.and_true]
/-- the numbers that are written: the labels, then -1 -/
def labAt (L : List Int) (k : Nat) : Int := if k < L.length then L.getD k 0 else -1
/-- one label is written: what stands in the list must be no less than nought -/
def labW (L : List Int) (s : LS) (k : Nat) : LS := labS ⟨s.bad || (decide (k < L.length) && decide (labAt L k < 0)), s.ended, s.last⟩ (labAt L k)
def labWs (L : List Int) (s : LS) : Nat → LS
  | 0 => s
  | k + 1 => labW L (labWs L s k) k
theorem labWs_bad (L : List Int) (s : LS) (k : Nat) (h : s.bad = true) : (labWs L s k).bad = true := by
  induction k with
  | zero => exact h
  | succ k ih => simp [labWs, labW, labS, ih]
theorem labWs_late (L : List Int) (s : LS) (j k : Nat) (h : (labWs L s j).bad = true) (hk : j ≤ k) : (labWs L s k).bad = true := by
  induction k with
  | zero => obtain rfl : j = 0 := by omega
            exact h
  | succ k ih =>
    by_cases e : j = k + 1
    · subst e; exact h
    · simp [labWs, labW, labS, ih (by omega)]
/-- as long as all went well -/
theorem labWs_good (L : List Int) (k : Nat) (hk : k ≤ L.length) : ((labWs L ⟨false, false, -1⟩ k).bad = false ∧ (labWs L ⟨false, false, -1⟩ k).ended = false ∧ (labWs L ⟨false, false, -1⟩ k).last = prev L k ∧ -1 ≤ prev L k ∧ chain (-1) L = chain (prev L k) (L.drop k)) ∨ ((labWs L ⟨false, false, -1⟩ k).bad = true ∧ chain (-1) L = false) := by
  induction k with
  | zero => exact .inl ⟨rfl, rfl, rfl, by simp [prev], rfl⟩
  | succ k ih =>
    have hin : k < L.length := by omega
    rcases ih (by omega) with ⟨h1, h2, h3, h4, h5⟩ | ⟨h1, h2⟩
    · have hA : labAt L k = L.getD k 0 := if_pos hin
      have hS := chain_step L k hin
      have hX : prev L (k + 1) = L.getD k 0 := rfl
      generalize hw : labWs L ⟨false, false, -1⟩ k = s at h1 h2 h3
      rw [show labWs L ⟨false, false, -1⟩ (k + 1) = labW L s k by rw [labWs, hw]]
      unfold labW
      rw [hA]
      generalize L.getD k 0 = x at hS hX
      cases hb : inB x (prev L k + 1) 200
      · refine .inr ⟨?_, by rw [h5, hS, hb]; rfl⟩
        unfold labS
        simp only
        rw [h1, h2, h3, decide_eq_true hin]
        have hb' := hb
        unfold inB at hb' ⊢
        by_cases h0 : x < 0
        · simp [h0]
        · by_cases h6 : x < 200
          · have : x ≤ prev L k := by
              by_cases h7 : prev L k + 1 ≤ x
              · simp [h6, h7] at hb'
              · omega
            simp [this, show 0 ≤ x by omega]
          · simp [h6]
      · have hi := inB_iff.1 hb
        refine .inl ⟨?_, ?_, hX.symm ▸ rfl, by rw [hX]; omega, by rw [h5, hS, hb]; rfl⟩
        · unfold labS
          simp only
          rw [h1, h2, h3]
          unfold inB
          simp [show ¬ x < 0 by omega, show -1 ≤ x by omega, hi.2, show ¬ x ≤ prev L k by omega]
        · unfold labS
          simp only
          rw [h2]
          simp [show ¬ x < 0 by omega]
    · exact .inr ⟨labWs_late L _ k (k + 1) h1 (by omega), h2⟩
theorem labWs_tail (L : List Int) (s : LS) (k : Nat) (hk : L.length ≤ k) : (labWs L s (k + 1)).bad = (labWs L s k).bad := by
  have hA : labAt L k = -1 := if_neg (by omega)
  rw [labWs]
  unfold labW
  rw [hA]
  simp [labS, inB, show ¬ k < L.length by omega]
/-- eight labels are written: the fold says whether they may stand -/
theorem labWs_8 (L : List Int) (b : Bool) : (labWs L ⟨b || !decide (L.length ≤ 8), false, -1⟩ 8).bad = (b || !labFine L) := by
  by_cases h8 : L.length ≤ 8
  · rw [decide_eq_true h8]
    cases b
    · have h1 : ∀ k, L.length ≤ k → (labWs L ⟨false, false, -1⟩ k).bad = (labWs L ⟨false, false, -1⟩ L.length).bad := by
        intro k hk
        induction k with
        | zero => obtain e : L.length = 0 := by omega
                  rw [e]
        | succ k ih =>
          by_cases e : L.length = k + 1
          · rw [e]
          · rw [labWs_tail L _ k (by omega), ih (by omega)]
      show (labWs L ⟨false, false, -1⟩ 8).bad = _
      rw [h1 8 h8]
      unfold labFine
      rw [decide_eq_true h8, Bool.and_true]
      rcases labWs_good L L.length (Nat.le_refl _) with ⟨g1, _, _, _, g5⟩ | ⟨g1, g2⟩
      · rw [g1, g5, chain_end _ _ _ (Nat.le_refl _)]; rfl
      · rw [g1, g2]; rfl
    · rw [labWs_bad _ _ _ rfl]; rfl
  · unfold labFine
    rw [decide_eq_false h8, labWs_bad _ _ _ (by simp)]
    simp
end Go.Proofs.Ytbhmfbhfofgfaaa
