/- Records written and read, whatever they are: what stands in new memory. -/
import Derived.Test.YtmekplamjlnhcaaRecY
import Derived.Test.YtmekplamjlnhcaaRecR
namespace Go.Proofs.Ytmekplamjlnhcaa
open Go.RowKit

theorem nil_own (w : World) (B e : Nat) {α : Type} (f : α → Value) : w.ownsRow B e 1 (.slice none 0 0) ([] : List α).length (([] : List α).map f) := World.ownsRow_nil w B e 1
theorem refPutNode_gen (dense : Bool) (first over : Int) (la : Option Addr) (lc : Nat) (labs : List Int) (sa : Option Addr) (sc : Nat) (sl : List UInt8) (w : World) (hl : labs.length ≤ 140737488351300) (hb : Ints w la labs) (hs : Bytes w sa sl) :
    Calls Try.prog 26 #[.agg #[.bool dense, .int .i64 first, .int .i64 over, .slice la labs.length lc, .slice sa sl.length sc]] w fun e w' => ∃ v l x, e = .returned (.tuple #[v, .int .i64 x]) ∧ Fresh w.heap.size w w' v l ∧ l.length ≤ 100 ∧ (x = 0 → nFine ⟨dense, first, over, labs, sl⟩ = true ∧ l = nB ⟨dense, first, over, labs, sl⟩) := by
  cases h : nFine ⟨dense, first, over, labs, sl⟩
  · refine (refPutNode_no dense first over la lc labs sa sc sl w hl hb h).mono ?_
    rintro e w' ⟨v, rfl, hv⟩
    exact ⟨v, [], _, rfl, hv, by simp, fun e => by cases e⟩
  · refine (refPutNode_yes dense first over la lc labs sa sc sl w hb hs h).mono ?_
    rintro e w' ⟨v, rfl, hv⟩
    exact ⟨v, _, 0, rfl, hv, by rw [nB_length _ h]; omega, fun _ => ⟨rfl, rfl⟩⟩
theorem refPutRel_gen (live : Bool) (fr to fp tp fn tn ty ov : Int) (sa : Option Addr) (sc : Nat) (sl : List UInt8) (w : World) (hs : Bytes w sa sl) :
    Calls Try.prog 14 #[.agg #[.bool live, .int .i64 fr, .int .i64 to, .int .i64 fp, .int .i64 tp, .int .i64 fn, .int .i64 tn, .int .i64 ty, .int .i64 ov, .slice sa sl.length sc]] w fun e w' => ∃ v l x, e = .returned (.tuple #[v, .int .i64 x]) ∧ Fresh w.heap.size w w' v l ∧ l.length ≤ 100 ∧ (x = 0 → rFine ⟨live, fr, to, fp, tp, fn, tn, ty, ov, sl⟩ = true ∧ l = rB ⟨live, fr, to, fp, tp, fn, tn, ty, ov, sl⟩) := by
  cases h : rFine ⟨live, fr, to, fp, tp, fn, tn, ty, ov, sl⟩
  · refine (refPutRel_no live fr to fp tp fn tn ty ov sa sc sl w h).mono ?_
    rintro e w' ⟨v, rfl, hv⟩
    exact ⟨v, [], _, rfl, hv, by simp, fun e => by cases e⟩
  · refine (refPutRel_yes live fr to fp tp fn tn ty ov sa sc sl w h hs).mono ?_
    rintro e w' ⟨v, rfl, hv⟩
    exact ⟨v, _, 0, rfl, hv, by rw [rB_length]; have := (rFine_bd h).2.2.2.2.2.2.2.2; simp only at this ⊢; omega, fun _ => ⟨rfl, rfl⟩⟩
/-- a node read from bytes: its lists are new, each in a block of its own -/
theorem GetNode_gen (a : Option Addr) (c : Nat) (l : List UInt8) (w : World) (hb : Bytes w a l) :
    Calls Try.prog 28 #[.slice a l.length c] w fun e w' => ∃ d f o la lc L sa sc S x, e = .returned (.tuple #[.agg #[.bool d, .int .i64 f, .int .i64 o, .slice la (List.length L) lc, .slice sa (List.length S) sc], .int .i64 x]) ∧ w'.ownsRow w.heap.size 3 1 (.slice la (List.length L) lc) (List.length L) (L.map (Value.int .i64)) ∧ w'.ownsRow w.heap.size 5 1 (.slice sa (List.length S) sc) (List.length S) (S.map B8) ∧ (∀ g, (Value.slice la (List.length L) lc).ownBlock = some g → (Value.slice sa (List.length S) sc).ownBlock ≠ some g) ∧ List.length L ≤ 8 ∧ List.length S ≤ 48 ∧ (∀ n, nFine n = true → l = nB n → (⟨d, f, o, L, S⟩ : NodeV) = n) ∧ Fr [] w w' := by
  by_cases h : l.length = 65
  · refine (GetNode_any a c l w h hb).mono ?_
    rintro e w' ⟨x, rfl, hg, hf⟩
    unfold GotNode at hg
    by_cases hk : nOk l = true
    · rw [if_pos hk] at hg
      obtain ⟨lv, v, rfl, h1, h2, h3⟩ := hg
      obtain ⟨la, lc, rfl, _⟩ := ints_of_own h1
      obtain ⟨sa, sc, rfl, _⟩ := Bytes.of_own h2
      refine ⟨_, _, _, la, lc, _, sa, sc, _, 0, rfl, h1, h2, h3, ?_, ?_, ?_, hf⟩
      · have := labsOf_length (nLabs l)
        rw [nLabs_length l h] at this
        exact this
      · rw [nSl_length l h]; omega
      · rintro n hn rfl
        have := nDec_nB n hn
        generalize nDec (nB n) = m at this
        subst this
        rfl
    · rw [if_neg hk] at hg
      subst hg
      refine ⟨_, _, _, none, 0, [], none, 0, [], _, rfl, nil_own _ _ _ _, nil_own _ _ _ _, (fun g hg => by cases hg), by simp, by simp, ?_, hf⟩
      rintro n hn rfl
      exact absurd (nOk_nB n hn) hk
  · refine (GetNode_size a c l w h).mono ?_
    rintro e w' ⟨rfl, hf⟩
    refine ⟨_, _, _, none, 0, [], none, 0, [], _, rfl, nil_own _ _ _ _, nil_own _ _ _ _, (fun g hg => by cases hg), by simp, by simp, ?_, hf⟩
    rintro n hn rfl
    exact absurd (nB_length n hn) h
set_option maxRecDepth 100000 in
theorem GetRel_gen (a : Option Addr) (c : Nat) (l : List UInt8) (w : World) (hb : Bytes w a l) :
    Calls Try.prog 16 #[.slice a l.length c] w fun e w' => ∃ b z1 z2 z3 z4 z5 z6 z7 z8 sa sc S x, e = .returned (.tuple #[.agg #[.bool b, .int .i64 z1, .int .i64 z2, .int .i64 z3, .int .i64 z4, .int .i64 z5, .int .i64 z6, .int .i64 z7, .int .i64 z8, .slice sa (List.length S) sc], .int .i64 x]) ∧ w'.ownsRow w.heap.size 5 1 (.slice sa (List.length S) sc) (List.length S) (S.map B8) ∧ List.length S ≤ 32 ∧ (∀ r, rFine r = true → l = rB r → (⟨b, z1, z2, z3, z4, z5, z6, z7, z8, S⟩ : RelV) = { r with live := true }) ∧ Fr [] w w' := by
  by_cases h : l.length = 62
  · refine (GetRel_any a c l w h hb).mono ?_
    rintro e w' ⟨x, rfl, hg, hf⟩
    unfold GotRel at hg
    by_cases hk : rFine (rDec l) = true
    · rw [if_pos hk] at hg
      obtain ⟨v, rfl, h2⟩ := hg
      obtain ⟨sa, sc, rfl, _⟩ := Bytes.of_own h2
      refine ⟨_, _, _, _, _, _, _, _, _, sa, sc, _, 0, rfl, h2, ?_, ?_, hf⟩
      · rw [rDec_sl l h]; omega
      · rintro r hr rfl
        have := rDec_rB r hr
        generalize rDec (rB r) = m at this
        subst this
        rfl
    · rw [if_neg hk] at hg
      subst hg
      refine ⟨_, _, _, _, _, _, _, _, _, none, 0, [], _, rfl, nil_own _ _ _ _, by simp, ?_, hf⟩
      rintro r hr rfl
      exact absurd (by rw [rDec_rB r hr]; exact hr) hk
  · refine (GetRel_size a c l w h).mono ?_
    rintro e w' ⟨rfl, hf⟩
    refine ⟨_, _, _, _, _, _, _, _, _, none, 0, [], _, rfl, nil_own _ _ _ _, by simp, ?_, hf⟩
    rintro r hr rfl
    exact absurd (by rw [rB_length]; have := (rFine_bd hr).2.2.2.2.2.2.2.2; omega) h
end Go.Proofs.Ytmekplamjlnhcaa
