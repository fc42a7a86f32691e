/- Nodes of version 2 that are read: what the bytes say, and the walk of GetNode. -/
import Derived.Test.YtbhmfbhfofgfaaaRecS
namespace Go.Proofs.Ytbhmfbhfofgfaaa
open Go.RowKit

theorem infoI : (Try.prog.info? 3).map (fun i => (i.zero, i.size, i.bytes)) = some (some (.int .i64 0), 1, 8) := by kernel_rfl
/-! what eight bytes of labels say -/
def labsOf (cs : List UInt8) : List Int := (cs.takeWhile (· != 0)).map fun c => (c.toNat : Int) - 1
def gapOk (cs : List UInt8) : Bool := (cs.dropWhile (· != 0)).all (· == 0)
def gapAt (cs : List UInt8) : Bool := cs.any (· == 0)
theorem tw_all {cs : List UInt8} (h : gapAt cs = false) : cs.takeWhile (· != 0) = cs ∧ cs.dropWhile (· != 0) = [] := by
  induction cs with
  | nil => exact ⟨rfl, rfl⟩
  | cons x cs ih =>
    unfold gapAt at h
    rw [List.any_cons, Bool.or_eq_false_iff] at h
    have hx : (x != 0) = true := by unfold bne; rw [h.1]; rfl
    obtain ⟨h1, h2⟩ := ih h.2
    rw [List.takeWhile_cons, List.dropWhile_cons, hx]
    exact ⟨by simp [h1], by simp [h2]⟩
theorem tw_gap {cs : List UInt8} (h : gapAt cs = true) (r : List UInt8) : (cs ++ r).takeWhile (· != 0) = cs.takeWhile (· != 0) ∧ (cs ++ r).dropWhile (· != 0) = cs.dropWhile (· != 0) ++ r := by
  induction cs with
  | nil => simp [gapAt] at h
  | cons x cs ih =>
    unfold gapAt at h
    rw [List.any_cons, Bool.or_eq_true] at h
    by_cases hx : (x != 0) = true
    · have hg : gapAt cs = true := by
        rcases h with h | h
        · unfold bne at hx; rw [h] at hx; cases hx
        · exact h
      obtain ⟨h1, h2⟩ := ih hg
      rw [List.cons_append, List.takeWhile_cons, List.dropWhile_cons, List.takeWhile_cons, List.dropWhile_cons, hx]
      exact ⟨by simp [h1], by simp [h2]⟩
    · have hx : (x != 0) = false := by simpa using hx
      rw [List.cons_append, List.takeWhile_cons, List.dropWhile_cons, List.takeWhile_cons, List.dropWhile_cons, hx]
      simp
theorem gapAt_snoc (cs : List UInt8) (x : UInt8) : gapAt (cs ++ [x]) = (gapAt cs || x == 0) := by unfold gapAt; simp
theorem labs_in {cs : List UInt8} {x : UInt8} (hg : gapAt cs = false) (hx : (x == 0) = false) : labsOf (cs ++ [x]) = labsOf cs ++ [(x.toNat : Int) - 1] := by
  have h2 : gapAt (cs ++ [x]) = false := by rw [gapAt_snoc, hg, hx]; rfl
  unfold labsOf
  rw [(tw_all h2).1, (tw_all hg).1, List.map_append]
  rfl
theorem labs_out {cs : List UInt8} {x : UInt8} (hx : (x == 0) = true) : labsOf (cs ++ [x]) = labsOf cs := by
  cases hg : gapAt cs
  · unfold labsOf
    have e : x = 0 := by simpa using hx
    rw [(tw_all hg).1]
    subst e
    have : ∀ l : List UInt8, gapAt l = false → (l ++ [0]).takeWhile (· != 0) = l := by
      intro l
      induction l with
      | nil => intro _; rfl
      | cons y l ih =>
        intro h
        unfold gapAt at h
        rw [List.any_cons, Bool.or_eq_false_iff] at h
        have hy : (y != 0) = true := by unfold bne; rw [h.1]; rfl
        rw [List.cons_append, List.takeWhile_cons, hy]
        simp [ih h.2]
    rw [this cs hg]
  · unfold labsOf
    rw [(tw_gap hg [x]).1]
theorem gap_bad {cs r : List UInt8} {x : UInt8} (hg : gapAt cs = true) (hx : (x == 0) = false) : gapOk (cs ++ (x :: r)) = false := by
  unfold gapOk
  rw [(tw_gap hg (x :: r)).2, List.all_append, List.all_cons, hx]
  simp
theorem gap_in {cs : List UInt8} {x : UInt8} (hg : gapAt cs = false) : gapOk (cs ++ [x]) = true := by
  unfold gapOk
  have : ∀ l : List UInt8, gapAt l = false → ((l ++ [x]).dropWhile (· != 0)).all (· == 0) = true := by
    intro l
    induction l with
    | nil =>
      intro _
      by_cases hx : (x != 0) = true
      · simp [List.dropWhile_cons, hx]
      · have hx : (x != 0) = false := by simpa using hx
        have : x = 0 := by simpa using hx
        subst this
        simp
    | cons y l ih =>
      intro h
      unfold gapAt at h
      rw [List.any_cons, Bool.or_eq_false_iff] at h
      have hy : (y != 0) = true := by unfold bne; rw [h.1]; rfl
      rw [List.cons_append, List.dropWhile_cons, hy]
      simpa using ih h.2
  exact this cs hg
theorem gap_out {cs : List UInt8} {x : UInt8} (hk : gapOk cs = true) (hg : gapAt cs = true) (hx : (x == 0) = true) : gapOk (cs ++ [x]) = true := by
  unfold gapOk at hk ⊢
  rw [(tw_gap hg [x]).2, List.all_append, hk]
  simpa using hx
theorem labsOf_length (cs : List UInt8) : (labsOf cs).length ≤ cs.length := by
  unfold labsOf; rw [List.length_map]; exact (List.takeWhile_prefix _).length_le
/-! a node that 65 bytes are -/
def nLabs (l : List UInt8) : List UInt8 := (l.drop 9).take 8
def nDec (l : List UInt8) : NodeV := ⟨(nm l 0 1 : Int) == 1, nm l 1 4 - 1, nm l 5 4 - 1, labsOf (nLabs l), (l.drop 17).take 48⟩
def nOk (l : List UInt8) : Bool := decide (nm l 0 1 ≤ 1) && (gapOk (nLabs l) && nFine (nDec l))
def nZero : Value := .agg #[.bool false, .int .i64 0, .int .i64 0, .slice none 0 0, .slice none 0 0]
def NodeV.val (n : NodeV) (la v : Value) : Value := .agg #[.bool n.dense, .int .i64 n.first, .int .i64 n.over, la, v]
/-- what a reading of 65 bytes gives -/
def GotNode (B : Nat) (l : List UInt8) (e : Value) (w' : World) : Prop :=
  if nOk l then ∃ la v, e = .tuple #[(nDec l).val la v, .int .i64 0] ∧ w'.ownsRow B 3 1 la (nDec l).labs.length ((nDec l).labs.map (Value.int .i64)) ∧ w'.ownsRow B 5 1 v (nDec l).sl.length ((nDec l).sl.map B8) ∧ (∀ g, la.ownBlock = some g → v.ownBlock ≠ some g) else e = .tuple #[nZero, .int .i64 41]
theorem GotNode.no {B : Nat} {l : List UInt8} {e : Value} {w' : World} (hf : nOk l = false) (h : e = .tuple #[nZero, .int .i64 41]) : GotNode B l e w' := by
  unfold GotNode; rw [if_neg (by rw [hf]; simp)]; exact h
theorem nLabs_length (l : List UInt8) (h : l.length = 65) : (nLabs l).length = 8 := by
  unfold nLabs; simp only [List.length_take, List.length_drop]; omega
theorem nSl_length (l : List UInt8) (h : l.length = 65) : (nDec l).sl.length = 48 := by
  unfold nDec; simp only [List.length_take, List.length_drop]; omega
/-- numbers of the call's own, as the address reads them -/
theorem ints_of_own {w : World} {B e : Nat} {v : Value} {l : List Int} (h : w.ownsRow B e 1 v l.length (l.map (Value.int .i64))) : ∃ a cap, v = .slice a l.length cap ∧ Ints w a l ∧ l.length ≤ cap ∧ (a = none → cap = 0) ∧ (∀ ad, a = some ad → B ≤ ad.block ∧ ad.off = 0 ∧ ad.spot = none) := by
  have hx := h.2
  rcases hx with ⟨rfl, hn⟩ | ⟨g, cap, cur, rfl, hg, hh, hn, hm, hs, ht⟩
  · have : l = [] := List.eq_nil_of_length_eq_zero hn
    subst this
    exact ⟨none, 0, rfl, Or.inl rfl, Nat.le_refl _, fun _ => rfl, fun _ h => by cases h⟩
  · refine ⟨_, cap, rfl, Or.inr ⟨g, 0, rfl, fun j hj => ?_⟩, hn, (fun h => by cases h), fun ad had => by cases had; exact ⟨hg, rfl, rfl⟩⟩
    have hu : (l.map (Value.int .i64))[j]? = some (.int .i64 (l.getD j 0)) := by simp [List.getD, hj]
    have := h.cells (g := g) rfl j _ hu
    rwa [Addr.add_lit] at this
theorem news_one {w : World} {v : Value} {T g : Nat} (hg : g = w.heap.size) : ∀ a, some (⟨g, 0, none⟩ : Addr) = some a → ∀ j u, [v][j]? = some u → (w.alloc (.cells #[v] T)).cell? (a.add j) = some u := by
  rintro a ha j u hu
  cases ha
  subst hg
  have hj : j = 0 := by
    have := (List.getElem?_eq_some_iff.1 hu).1
    simpa using this
  subst hj
  rw [Addr.add_lit, cell_of_row _ _ _ _ T _ (heap_alloc_new w _)]
  simpa using hu
theorem App.fr {w w' : World} {base e size n m : Nat} {v v' : Value} {xs news : List Value} (h : App w w' base e size v v' n m xs news) : Fr v.ownBlock.toList w w' :=
  Fr.of_grown h.grown _ fun k hk _ => by simp [hk]
theorem nOk_gap {l : List UInt8} (h : gapOk (nLabs l) = false) : nOk l = false := by unfold nOk; rw [h]; simp
theorem nOk_dense {l : List UInt8} (h : ¬ nm l 0 1 ≤ 1) : nOk l = false := by unfold nOk; rw [decide_eq_false h]; rfl
theorem nOk_fine {l : List UInt8} (h : nFine (nDec l) = false) : nOk l = false := by unfold nOk; rw [h]; simp
end Go.Proofs.Ytbhmfbhfofgfaaa
