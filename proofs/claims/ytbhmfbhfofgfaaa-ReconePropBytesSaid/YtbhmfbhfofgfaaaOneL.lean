/- Version 1's property: the plain law; a codec that reads one. -/
import Derived.Test.YtbhmfbhfofgfaaaOneI
import Derived.Test.YtbhmfbhfofgfaaaOneE
import Derived.Deep.CutRange
import Derived.Deep.DeepCutAuto
namespace Go.Proofs.Ytbhmfbhfofgfaaa
open Go.RowKit
attribute [local go_sem ↓] Go.wp_at_zero Go.wp_at_succ
theorem NumR8 (w : World) (p g : Nat) (l : List UInt8) (q : Nat) (h : Rdr w p g l q) (hl : l.length ≤ 140737488351300) (hq : q + 8 ≤ l.length) :
    Calls Try.prog 57 #[.pointer (some ⟨p, 0, none⟩), .int .i64 ((8 : Nat) : Int)] w fun x w' => x = .returned (.int .u64 (U (nm l q 8))) ∧ Rdr w' p g l (q + 8) ∧ Fr [p] w w' := by
  have H := RdNum_any l p g q 0 ((8 : Nat) : Int) w h.st hl h.by_ h.ne
  have hz := isWd_nat 8 (by unfold Wd; omega)
  obtain ⟨e1, e2, e3⟩ := r_yes (l := l) (q := q) (k := 8) (by omega)
  have en : rNum l q 0 ((8 : Nat) : Int) = nm l q 8 := by unfold rNum; rw [hz, e1, nm_def]
  rw [en] at H
  rw [hz, e2, e3] at H
  exact H.mono fun x w' ⟨hx, h2, h3⟩ => ⟨hx, ⟨h2, h.by_.fr h3 (.inr fun ad e => by cases e; simp [h.ne]), h.ne⟩, h3⟩
theorem nm_le8 (l : List UInt8) (q : Nat) : nm l q 8 < 18446744073709551616 := by
  rw [nm_def]
  have h1 := be_lt ((l.drop q).take 8)
  have h2 : 256 ^ ((l.drop q).take 8).length ≤ 256 ^ 8 := Nat.pow_le_pow_right (by omega) (by rw [List.length_take]; omega)
  have h3 : (256 : Nat) ^ 8 = 18446744073709551616 := by decide
  omega
/-- eight bytes as a signed number -/
def sgn (n : Nat) : Int := IntKind.i64.wrap (U n)
theorem uNum_sgn {n : Nat} (h : n < 18446744073709551616) : uNum (sgn n) = (n : Int) := by
  unfold uNum sgn
  rw [U_lt n h, wrap64u, IntKind.wrap_i64]
  omega
theorem sgn_uNum {z : Int} (h : -9223372036854775808 ≤ z ∧ z ≤ 9223372036854775807) : sgn (uNum z).toNat = z := by
  have hb := uNum_bd z
  unfold sgn
  rw [U_lt _ (by omega), IntKind.wrap_i64]
  unfold uNum
  rw [wrap64u]
  omega
def PropV.cells (r : PropV) : List Value := [.int .i64 r.key, .int .i64 r.kind, .int .i64 r.num, .int .i64 r.blob, .int .i64 r.prev, .int .i64 r.next]
def pFine (r : PropV) : Bool := inB r.key 0 200 && (inB r.kind 1 9 && (inB r.prev (-1) 65536 && (inB r.next (-1) 65536 && (if r.kind ≤ 3 then decide (r.blob = -1) else (decide (r.num = 0) && inB r.blob 0 65536)))))
def pB (r : PropV) : List UInt8 := by8 2 r.key.toNat ++ by8 1 r.kind.toNat ++ (if r.kind ≤ 3 then by8 8 (uNum r.num).toNat else by8 8 (r.blob + 1).toNat) ++ by8 4 (r.prev + 1).toNat ++ by8 4 (r.next + 1).toNat
theorem pB_length (r : PropV) : (pB r).length = 19 := by
  unfold pB
  split <;> simp only [List.length_append, by8_length]
theorem pBad_fine (r : PropV) : pBad r = !pFine r := by
  unfold pBad pFine pMidBad
  by_cases h : r.kind ≤ 3
  · rw [if_pos h, if_pos h]
    unfold okN
    simp only [Bool.not_and, Bool.false_or, ne_eq, decide_not]
    ac_rfl
  · rw [if_neg h, if_neg h]
    have h0 : inB r.num 0 1 = decide (r.num = 0) := by
      by_cases hz : r.num = 0
      · rw [hz]; rfl
      · rw [decide_eq_false hz, inB_false (by omega)]
    unfold okN
    rw [h0]
    simp only [Bool.not_and, Bool.false_or, ne_eq, decide_not, Bool.or_assoc, Bool.or_self_left]
    ac_rfl
theorem pFine_bd {r : PropV} (h : pFine r = true) : (0 ≤ r.key ∧ r.key < 200) ∧ (1 ≤ r.kind ∧ r.kind < 9) ∧ (-1 ≤ r.prev ∧ r.prev < 65536) ∧ (-1 ≤ r.next ∧ r.next < 65536) ∧ (r.kind ≤ 3 → r.blob = -1) ∧ (¬ r.kind ≤ 3 → r.num = 0 ∧ 0 ≤ r.blob ∧ r.blob < 65536) := by
  unfold pFine at h
  simp only [Bool.and_eq_true, inB_iff] at h
  obtain ⟨a, b, c, d, e⟩ := h
  refine ⟨a, b, c, d, fun hk => ?_, fun hk => ?_⟩
  · rw [if_pos hk] at e
    exact of_decide_eq_true e
  · rw [if_neg hk] at e
    simp only [Bool.and_eq_true, inB_iff, decide_eq_true_eq] at e
    exact e
theorem by8_8 (n : Nat) (h : n < 4294967296) : by8 8 n = by8 4 0 ++ by8 4 n := by
  have h4 : n / 256 / 256 / 256 / 256 = 0 := by omega
  simp [by8, h4]
theorem pU_pB {r : PropV} (h : pFine r = true) : pU r = pB r := by
  obtain ⟨a, b, c, d, e, f⟩ := pFine_bd h
  unfold pU pB pHead pMid
  rw [numU_in (by omega) (by omega), numU_in (by omega) (by omega), ptrU_in (by omega), ptrU_in (by omega), Int.add_zero, Int.add_zero]
  by_cases hk : r.kind ≤ 3
  · rw [if_pos hk, if_pos hk]
  · obtain ⟨f1, f2⟩ := f hk
    rw [if_neg hk, if_neg hk, f1, numU_in (by omega) (by omega), numU_in (by omega) (by omega), by8_8 _ (by omega)]
    rfl
/-- the property that nineteen bytes may be -/
def pDec (l : List UInt8) : PropV := if nm l 2 1 ≤ 3 then ⟨nm l 0 2, nm l 2 1, sgn (nm l 3 8), -1, (nm l 11 4 : Int) - 1, (nm l 15 4 : Int) - 1⟩ else ⟨nm l 0 2, nm l 2 1, 0, (nm l 7 4 : Int) - 1, (nm l 11 4 : Int) - 1, (nm l 15 4 : Int) - 1⟩
/-- nineteen bytes are a property -/
def pOk (l : List UInt8) : Bool := pFine (pDec l) && (decide (nm l 2 1 ≤ 3) || decide (nm l 3 4 = 0))
/-- what a codec keeps that reads them -/
def pRB (l : List UInt8) : Bool := okN (okN (if nm l 2 1 ≤ 3 then okN (okN false (nm l 0 2) 0 200) (nm l 2 1) 1 9 else okN (okN (okN (okN false (nm l 0 2) 0 200) (nm l 2 1) 1 9) (nm l 3 4) 0 1) ((nm l 7 4 : Int) - 1) 0 65536) ((nm l 11 4 : Int) - 1) (-1) 65536) ((nm l 15 4 : Int) - 1) (-1) 65536
theorem pRB_ok (l : List UInt8) : pRB l = !pOk l := by
  unfold pRB pOk pFine pDec
  by_cases h : nm l 2 1 ≤ 3
  · have hi : ((nm l 2 1 : Nat) : Int) ≤ 3 := by omega
    rw [if_pos h, if_pos h, decide_eq_true h]
    simp only [if_pos hi]
    unfold okN
    generalize inB ((nm l 0 2 : Nat) : Int) 0 200 = A
    generalize inB ((nm l 2 1 : Nat) : Int) 1 9 = B
    generalize inB ((nm l 11 4 : Nat) - 1 : Int) (-1) 65536 = C
    generalize inB ((nm l 15 4 : Nat) - 1 : Int) (-1) 65536 = D
    cases A <;> cases B <;> cases C <;> cases D <;> rfl
  · have hi : ¬ ((nm l 2 1 : Nat) : Int) ≤ 3 := by omega
    have h0 : inB ((nm l 3 4 : Nat) : Int) 0 1 = decide (nm l 3 4 = 0) := by
      by_cases hz : nm l 3 4 = 0
      · rw [hz]; rfl
      · rw [decide_eq_false hz, inB_false (by omega)]
    rw [if_neg h, if_neg h, decide_eq_false h]
    simp only [if_neg hi]
    unfold okN
    rw [h0]
    generalize inB ((nm l 0 2 : Nat) : Int) 0 200 = A
    generalize inB ((nm l 2 1 : Nat) : Int) 1 9 = B
    generalize inB ((nm l 11 4 : Nat) - 1 : Int) (-1) 65536 = C
    generalize inB ((nm l 15 4 : Nat) - 1 : Int) (-1) 65536 = D
    generalize inB ((nm l 7 4 : Nat) - 1 : Int) 0 65536 = F
    generalize decide (nm l 3 4 = 0) = G
    cases A <;> cases B <;> cases C <;> cases D <;> cases F <;> cases G <;> rfl
theorem pB_pDec {l : List UInt8} (h : l.length = 19) (hf : pFine (pDec l) = true) : (pB (pDec l) == l) = (decide (nm l 2 1 ≤ 3) || decide (nm l 3 4 = 0)) := by
  have s := fun (q n : Nat) => (List.take_append_drop n (l.drop q))
  have e5 := s 15 4
  rw [List.drop_drop, show (l.drop (15 + 4)) = [] from List.drop_eq_nil_iff.2 (by omega), List.append_nil] at e5
  have e4 := s 11 4
  have e2 := s 2 1
  have e1 := s 0 2
  rw [List.drop_drop] at e4 e2 e1
  have n8 := nm_le8 l 3
  by_cases hk : nm l 2 1 ≤ 3
  · have hi : ((nm l 2 1 : Nat) : Int) ≤ 3 := by omega
    rw [decide_eq_true hk, Bool.true_or, beq_iff_eq]
    have e3 := s 3 8
    rw [List.drop_drop] at e3
    unfold pB pDec
    rw [if_pos hk]
    simp only [if_pos hi, uNum_sgn n8, Int.toNat_natCast, show ∀ n : Nat, ((n : Int) - 1 + 1).toNat = n from fun n => by omega]
    rw [by8_nm l 0 2 (by omega), by8_nm l 2 1 (by omega), by8_nm l 3 8 (by omega), by8_nm l 11 4 (by omega), by8_nm l 15 4 (by omega)]
    simp only [List.append_assoc, List.drop_zero] at *
    rw [e5, e4, e3, e2, e1]
  · have hi : ¬ ((nm l 2 1 : Nat) : Int) ≤ 3 := by omega
    have e3 := s 3 4
    have e6 := s 7 4
    rw [List.drop_drop] at e3 e6
    have hn := nm_le l 7 4 (by omega)
    have hB : pB (pDec l) = (l.drop 0).take 2 ++ ((l.drop 2).take 1 ++ (by8 4 0 ++ l.drop 7)) := by
      unfold pB pDec
      rw [if_neg hk]
      simp only [if_neg hi, Int.toNat_natCast, show ∀ n : Nat, ((n : Int) - 1 + 1).toNat = n from fun n => by omega]
      rw [by8_8 _ (by omega), by8_nm l 0 2 (by omega), by8_nm l 2 1 (by omega), by8_nm l 7 4 (by omega), by8_nm l 11 4 (by omega), by8_nm l 15 4 (by omega)]
      simp only [List.append_assoc] at *
      rw [e5, e4, e6]
    have hL : l = (l.drop 0).take 2 ++ ((l.drop 2).take 1 ++ (by8 4 (nm l 3 4) ++ l.drop 7)) := by
      rw [by8_nm l 3 4 (by omega), e3, e2, e1, List.drop_zero]
    rw [decide_eq_false hk, Bool.false_or, hB]
    by_cases h0 : nm l 3 4 = 0
    · rw [decide_eq_true h0, beq_iff_eq]
      rw [h0] at hL
      exact hL.symm
    · rw [decide_eq_false h0, beq_eq_false_iff_ne]
      intro e
      have e' := e.trans hL
      have e'' := List.append_cancel_left (List.append_cancel_left e')
      have e7 := List.append_inj_left e'' (by rw [by8_length, by8_length])
      have := congrArg be e7
      rw [be_by8, be_by8, show (256 : Nat) ^ 4 = 4294967296 from by decide] at this
      have hm := nm_le l 3 4 (by omega)
      omega
theorem pDec_pB (r : PropV) (h : pFine r = true) (hn : -9223372036854775808 ≤ r.num ∧ r.num ≤ 9223372036854775807) : pDec (pB r) = r ∧ pOk (pB r) = true := by
  obtain ⟨a, b, c, d, e, f⟩ := pFine_bd h
  have hbd := uNum_bd r.num
  obtain ⟨M, hM⟩ : ∃ M, M = (if r.kind ≤ 3 then by8 8 (uNum r.num).toNat else by8 8 (r.blob + 1).toNat) := ⟨_, rfl⟩
  have hML : M.length = 8 := by rw [hM]; split <;> rw [by8_length]
  have hB : pB r = by8 2 r.key.toNat ++ (by8 1 r.kind.toNat ++ (M ++ (by8 4 (r.prev + 1).toNat ++ by8 4 (r.next + 1).toNat))) := by
    unfold pB; rw [← hM]; simp
  have n1 : nm (pB r) 0 2 = r.key.toNat := nm_of _ [] _ _ 0 2 (by rw [hB]; rfl) rfl (by omega)
  have n2 : nm (pB r) 2 1 = r.kind.toNat := nm_of _ (by8 2 r.key.toNat) _ _ 2 1 hB (by8_length ..) (by omega)
  have n4 : nm (pB r) 11 4 = (r.prev + 1).toNat := nm_of _ (by8 2 r.key.toNat ++ by8 1 r.kind.toNat ++ M) _ _ 11 4 (by rw [hB]; simp only [List.append_assoc]; rfl) (by simp only [List.length_append, by8_length, hML]) (by omega)
  have n5 : nm (pB r) 15 4 = (r.next + 1).toNat := nm_of _ (by8 2 r.key.toNat ++ by8 1 r.kind.toNat ++ M ++ by8 4 (r.prev + 1).toNat) [] _ 15 4 (by rw [hB]; simp only [List.append_assoc, List.append_nil]) (by simp only [List.length_append, by8_length, hML]) (by omega)
  have q : ∀ z : Int, 0 ≤ z → (z.toNat : Int) = z := fun z h => Int.toNat_of_nonneg h
  have q1 : ∀ z : Int, -1 ≤ z → ((z + 1).toNat : Int) - 1 = z := fun z h => by rw [Int.toNat_of_nonneg (by omega)]; omega
  by_cases hk : r.kind ≤ 3
  · rw [if_pos hk] at hM
    have n3 : nm (pB r) 3 8 = (uNum r.num).toNat := nm_of _ (by8 2 r.key.toNat ++ by8 1 r.kind.toNat) _ _ 3 8 (by rw [hB, hM]; simp only [List.append_assoc]; rfl) (by simp only [List.length_append, by8_length]) (by omega)
    have hd : pDec (pB r) = r := by
      unfold pDec
      rw [n1, n2, n3, n4, n5, if_pos (by omega), sgn_uNum hn, q _ a.1, q _ (by omega), q1 _ c.1, q1 _ d.1, ← e hk]
    refine ⟨hd, ?_⟩
    unfold pOk
    rw [hd, h, n2, decide_eq_true (show r.kind.toNat ≤ 3 by omega)]
    rfl
  · obtain ⟨f1, f2⟩ := f hk
    rw [if_neg hk, by8_8 _ (by omega)] at hM
    have n3 : nm (pB r) 3 4 = 0 := nm_of _ (by8 2 r.key.toNat ++ by8 1 r.kind.toNat) (by8 4 (r.blob + 1).toNat ++ (by8 4 (r.prev + 1).toNat ++ by8 4 (r.next + 1).toNat)) _ 3 4 (by rw [hB, hM]; simp only [List.append_assoc]) (by simp only [List.length_append, by8_length]) (by omega)
    have n6 : nm (pB r) 7 4 = (r.blob + 1).toNat := nm_of _ (by8 2 r.key.toNat ++ by8 1 r.kind.toNat ++ by8 4 0) (by8 4 (r.prev + 1).toNat ++ by8 4 (r.next + 1).toNat) _ 7 4 (by rw [hB, hM]; simp only [List.append_assoc]) (by simp only [List.length_append, by8_length]) (by omega)
    have hd : pDec (pB r) = r := by
      unfold pDec
      rw [n1, n2, n6, n4, n5, if_neg (by omega), q _ a.1, q _ (by omega), q1 _ c.1, q1 _ d.1, q1 _ (by omega), ← f1]
    refine ⟨hd, ?_⟩
    unfold pOk
    rw [hd, h, n3]
    simp
end Go.Proofs.Ytbhmfbhfofgfaaa
