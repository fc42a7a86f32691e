/- The walks of Writer.Str and Writer.Len, and what Num puts at any width. -/
import Derived.Test.YtkgfdcagninphaaDoorWireH
import Derived.Test.YtkgfdcagninphaaDoorAppStr
namespace Go.Proofs.YtkgfdcagninphaaDoor
open Go.RowKit
attribute [local go_sem] mulU256 wrapU_nat wrapU_I8 wrapU addU mulU remU divU byteU shrU I8_ne I8_eq U_eq U_ne
/-- the bytes of a number of any width -/
def numB (z : Int) (n : Nat) : List UInt8 := if isWd z = true then by8 z.toNat n else []
theorem numB_length (z : Int) (n : Nat) : (numB z n).length ≤ 8 := by
  unfold numB
  split
  · rename_i h
    obtain ⟨wd, rfl, hw⟩ := isWd_of z h
    have := hw.le
    have e : ((wd : Nat) : Int).toNat = wd := by omega
    rw [e, by8_length]; omega
  · simp
theorem Num_any (B p : Nat) (v : Value) (l : List UInt8) (z : Int) (n : Nat) (w : World) (ho : w.heap[p]? = some (.cells #[v] 77)) (hown : w.ownsRow B 5 1 v l.length (l.map B8)) (hne : v.ownBlock ≠ some p) (hB : B ≤ w.heap.size)
    (hn : n < 18446744073709551616) (hroom : l.length ≤ 140737488351300) :
    Calls Tryd.prog 28 #[.pointer (some ⟨p, 0, none⟩), .int .i64 z, .int .u64 (U n)] w fun e w' => e = .returned (.tuple #[]) ∧ ∃ v', Puts B w w' p v v' (l ++ numB z n) := by
  cases hz : isWd z with
  | false =>
    have e : numB z n = [] := by unfold numB; rw [hz]; rfl
    rw [e]
    refine (Num_no p z _ w hz).mono ?_
    rintro x w' ⟨rfl, rfl⟩
    exact ⟨rfl, v, ho, by simpa using hown, Fr.refl _ _, .inl rfl⟩
  | true =>
    obtain ⟨wd, rfl, hw⟩ := isWd_of z hz
    have e : numB wd n = by8 wd n := by unfold numB; rw [if_pos hz]; rfl
    rw [e]
    exact Num_yes B p v l wd n w ho hown hne hB hw hn (by omega)
theorem refnum_any (z : Int) (n : Nat) (w : World) (hn : n < 18446744073709551616) :
    Calls Tryd.prog 32 #[.int .i64 z, .int .u64 (U n)] w fun e w' => ∃ v, e = .returned v ∧ Fresh w.heap.size w w' v (numB z n) := by
  cases hz : isWd z with
  | false =>
    have e : numB z n = [] := by unfold numB; rw [hz]; rfl
    rw [e]
    exact refnum_no z _ w hz
  | true =>
    obtain ⟨wd, rfl, hw⟩ := isWd_of z hz
    have e : numB wd n = by8 wd n := by unfold numB; rw [if_pos hz]; rfl
    rw [e]
    exact refnum_yes wd n w hw hn
theorem conv_any (a : Option Addr) (c : Nat) (l : List UInt8) (w : World) (hno : a = none → c = 0) (hb : Bytes w a l) :
    (convert 23 9 (.slice a l.length c)).run Tryd.prog w = .ok (.string ⟨l.toArray⟩) w := by
  cases a with
  | none =>
    have hl : l = [] := by
      rcases hb with h | ⟨_, _, h, _⟩
      · exact h
      · cases h
    subst hl
    show (convert 23 9 (.slice none 0 c)).run Tryd.prog w = _
    rw [run_convert_bytes_string w 23 9 5 none 0 c Tryd.underlying23 Tryd.underlying5 Tryd.underlying9]
    rfl
  | some ad =>
    refine run_convert_bytes_back w 23 9 5 ad c l Tryd.underlying23 Tryd.underlying5 Tryd.underlying9 ?_
    intro j hj
    obtain ⟨b, off, e, hc⟩ := hb.at (by omega)
    cases e
    rw [Addr.add_lit, hc j hj]
    have e1 : l.getD j 0 = l[j] := by simp [List.getD, hj]
    rw [e1]
    show some (Value.int .u8 (I8 l[j])) = _
    unfold I8
    rfl
theorem Sep.less {w0 w : World} {q : Nat} {ps : List Nat} {L : List (Value × List UInt8)} (h : Sep w0 w (q :: ps) L) : Sep w0 w ps L :=
  ⟨h.own, h.dis, fun x hx g hg hm => h.pne x hx g hg (List.mem_cons_of_mem _ hm), fun p hp => h.lo p (List.mem_cons_of_mem _ hp), h.fr⟩
theorem Sep.drop1 {w0 w : World} {ps : List Nat} {L : List (Value × List UInt8)} {x : Value × List UInt8} (h : Sep w0 w ps (x :: L)) : Sep w0 w ps L :=
  ⟨fun y hy => h.own y (List.mem_cons_of_mem _ hy), (List.pairwise_cons.1 h.dis).2, fun y hy => h.pne y (List.mem_cons_of_mem _ hy), h.lo, h.fr⟩
end Go.Proofs.YtkgfdcagninphaaDoor
