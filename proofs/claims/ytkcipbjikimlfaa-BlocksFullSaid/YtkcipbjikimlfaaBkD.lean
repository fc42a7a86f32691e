/- Blocks: along: what it tells, what it lists, in memory. -/
import Derived.Test.YtkcipbjikimlfaaBkB
import Derived.Test.YtkcipbjikimlfaaBkC
import Derived.Test.YtkcipbjikimlfaaRfE
import Derived.Maps.Own
import Derived.Maps.OwnSet
import Derived.Maps.Views
import Derived.Deep.RegionLaw
namespace Go.Proofs.Ytkcipbjikimlfaa
open Go.RowKit Go.Maps
attribute [local go_sem ↓] Go.wp_at_zero Go.wp_at_succ
/-! the plain law -/
def recAt (R : Recs) (i : Nat) : List UInt8 := (R.getD i none).getD []
def nxtR (R : Recs) (i : Nat) : Int := pNx (recAt R i)
def sndR (R : Recs) (i : Nat) : Bool := soundV R (pSt (recAt R i)) (pUs (recAt R i)) (pNx (recAt R i)) (pDa (recAt R i))
def goodR (R : Recs) (first i : Nat) : Bool := ((pSt (recAt R i) == 1) == (i == first)) && sndR R i
/-- a walk along a chain: the ids met, the error -/
def walkN (R : Recs) (first : Nat) : Nat → List Nat → Int → List Nat × Int
  | 0, met, id => if id = -1 then (met, 0) else ([], 101)
  | k + 1, met, id => if id = -1 then (met, 0) else if id.toNat ∈ met then ([], 101) else if goodR R first id.toNat = true then walkN R first k (met ++ [id.toNat]) (nxtR R id.toNat) else ([], 100)
def walkS (R : Recs) (first : Int) : List Nat × Int := if usedR R first = true then walkN R first.toNat (R.length + 1) [] first else ([], 3)
def walkE (s : RFS) (first : Int) : List Nat × Int := if s.sz ≠ 32 then ([], 4) else walkS s.R first
theorem walkN_end (R : Recs) (first k : Nat) (met : List Nat) : walkN R first k met (-1) = (met, 0) := by
  cases k <;> exact if_pos rfl
theorem walkN_met {R : Recs} {first k : Nat} {met : List Nat} {i : Nat} (h : i ∈ met) : walkN R first k met (i : Int) = ([], 101) := by
  cases k with
  | zero => exact if_neg (by omega)
  | succ k => rw [walkN, if_neg (by omega), if_pos (by simpa using h)]
theorem walkN_bad {R : Recs} {first k : Nat} {met : List Nat} {i : Nat} (h : i ∉ met) (hg : goodR R first i = false) : walkN R first (k + 1) met (i : Int) = ([], 100) := by
  rw [walkN, if_neg (by omega), if_neg (by simpa using h), if_neg (by simpa using hg)]
theorem walkN_on {R : Recs} {first k : Nat} {met : List Nat} {i : Nat} (h : i ∉ met) (hg : goodR R first i = true) : walkN R first (k + 1) met (i : Int) = walkN R first k (met ++ [i]) (nxtR R i) := by
  rw [walkN, if_neg (by omega), if_neg (by simpa using h), if_pos (by simpa using hg)]
  simp
theorem goodR_snd {R : Recs} {first i : Nat} (h : goodR R first i = true) : sndR R i = true := by
  unfold goodR at h
  rw [Bool.and_eq_true] at h
  exact h.2
theorem sndR_next {R : Recs} {i : Nat} (h : sndR R i = true) : nxtR R i = -1 ∨ usedR R (nxtR R i) = true := by
  unfold sndR soundV at h
  simp only [Bool.and_eq_true] at h
  by_cases h1 : pNx (recAt R i) = -1
  · exact .inl h1
  · rw [if_neg h1, Bool.and_eq_true] at h
    exact .inr h.2.2.2.2
theorem nodup_le : ∀ (n : Nat) {l : List Nat}, l.Nodup → (∀ i ∈ l, i < n) → l.length ≤ n
  | 0, l, _, hl => by
    cases l with
    | nil => exact Nat.le_refl _
    | cons x l => exact absurd (hl x List.mem_cons_self) (by omega)
  | n + 1, l, hd, hl => by
    have h := nodup_le n (l := l.erase n) (hd.erase n) fun i hi => by
      have h1 := (List.Nodup.mem_erase_iff hd).1 hi
      have h2 := hl i h1.2
      omega
    rw [List.length_erase] at h
    split at h <;> omega
/-! in memory -/
/-- the ids that were met -/
def MetM (w : World) (mb n : Nat) (L : List Nat) : Prop := ∃ D : DataW Nat, w.ownsMap Try.prog 3 (plainElem Try.prog 3) mb n D ∧ ∀ k : Nat, D.atKey (.int .i64 k) (.lit (.int .i64 0)) = .lit (.int .i64 (if k ∈ L then 1 else 0))
theorem keyI : Keyed Try.prog 3 := int_keyed Try.underlying3
theorem zeroI (w : World) : (zeroValue 3).run Try.prog w = .ok (.int .i64 0) w := by kernel_rfl
theorem MetM.made (w : World) : MetM (w.alloc (.map #[] 0)) w.heap.size 0 [] := ⟨.map [], World.ownsMap_made _ _ _ _, fun k => rfl⟩
theorem MetM.lt {w : World} {mb n : Nat} {L : List Nat} (h : MetM w mb n L) : mb < w.heap.size := by
  obtain ⟨D, h, -⟩ := h
  exact h.lt
theorem MetM.fr {S : List Nat} {w w' : World} {mb n : Nat} {L : List Nat} (h : MetM w mb n L) (hf : Fr S w w') (hS : mb ∉ S) : MetM w' mb n L := by
  obtain ⟨D, ⟨es, clock, hb, F, hs, hD⟩, h2⟩ := h
  exact ⟨D, ⟨es, clock, hf.obj hb hS, F, hs, hD⟩, h2⟩
theorem wfI {k : Nat} (h : k < 9223372036854775808) : (Lit.int .i64 k).wf = true := by simp [Lit.wf, IntKind.min, IntKind.max, IntKind.signed, IntKind.bits] <;> omega
theorem MetM.look {w : World} {mb n : Nat} {L : List Nat} (h : MetM w mb n L) (k : Nat) (hk : k < 9223372036854775808) : (Instr.lookup 60 (.map (some mb)) (.int .i64 k) false).run Try.prog w = .ok (.int .i64 (if k ∈ L then 1 else 0)) w := by
  obtain ⟨D, h, h2⟩ := h
  obtain ⟨c, hrun, hat, -⟩ := h.lookup_int keyI Try.underlying60 Try.underlying3 (zeroI w) (keyOf_int_mk Try.underlying3 (wfI hk))
  rw [h2] at hat
  have e : (if k ∈ L then (1 : Int) else 0) = c := by
    have := hat
    simpa using this
  rw [hrun, e]
/-- met[id]++ -/
theorem MetM.up {w : World} {mb n : Nat} {L : List Nat} (h : MetM w mb n L) (k : Nat) (hk : k < 9223372036854775808) (hn : n < 1000000) (c : Nat) (hc : c ≤ 2) : ∃ w', (Instr.mapUpdate 60 (.map (some mb)) (.int .i64 k) (.int .i64 c)).run Try.prog w = .ok () w' ∧ Fr [mb] w w' ∧
    (Instr.lookup 60 (.map (some mb)) (.int .i64 k) false).run Try.prog w' = .ok (.int .i64 c) w' ∧ (c = 1 → MetM w' mb (n + 1) (L ++ [k])) := by
  obtain ⟨D, h, h2⟩ := h
  have hkey := keyOf_int_mk Try.underlying3 (wfI hk)
  obtain ⟨w', hrun, hown, hg⟩ := h.update keyI Try.underlying60 (by unfold maxLen; omega) hkey (plainElem_int (H := Nat) Try.underlying3 (wfI (k := c) (by omega)))
  obtain ⟨c', hrun2, hat, -⟩ := hown.lookup_int keyI Try.underlying60 Try.underlying3 (zeroI w') hkey
  have hlit : WideAt.IsKeyLit (.int .i64 (k : Int)) := by trivial
  rw [atKey_put_same h.isMap hlit] at hat
  have e : (c : Int) = c' := by simpa using hat
  refine ⟨w', hrun, Fr.of_grown hg _ (by intro j hj _; cases hj; simp), by rw [hrun2, e], fun hc1 => ⟨_, hown, fun j => ?_⟩⟩
  by_cases hj : j = k
  · subst hj
    rw [atKey_put_same h.isMap hlit, if_pos (by simp), hc1]
    rfl
  · rw [atKey_put_other (by simp; omega), h2]
    simp [hj]
theorem own_neM {w : World} {B e size n g : Nat} {v : Value} {xs : List Value} {es : Array MapEntry} {ck : Nat} (h : w.ownsRow B e size v n xs) (hh : w.heap[g]? = some (.map es ck)) : v.ownBlock ≠ some g := by
  intro hg
  rcases h.2 with ⟨rfl, _⟩ | ⟨g', cap, cur, rfl, _, h2, _⟩
  · cases hg
  · simp only [Value.ownBlock, Option.some.injEq] at hg
    subst hg
    rw [hh] at h2
    cases h2
theorem MetM.neq {w : World} {mb nm B e size n : Nat} {L : List Nat} {v : Value} {xs : List Value} (h : MetM w mb nm L) (ho : w.ownsRow B e size v n xs) : v.ownBlock ≠ some mb := by
  obtain ⟨D, ⟨es, ck, hb, -⟩, -⟩ := h
  exact own_neM ho hb
/-- a block that was read: its data in memory, its record -/
structure BI where
  a : Option Addr
  c : Nat
  d : List UInt8
def BI.v (x : BI) : Value := .slice x.a 25 x.c
def biC (x : BI) : List Value := [.int .i64 (pSt x.d), .int .i64 (pUs x.d), .int .i64 (pNx x.d), x.v]
def biCells (X : List BI) : List Value := X.flatMap biC
theorem biCells_snoc (X : List BI) (x : BI) : biCells (X ++ [x]) = biCells X ++ biC x := by unfold biCells; rw [List.flatMap_append]; simp
theorem biCells_cons (x : BI) (X : List BI) : biCells (x :: X) = biC x ++ biCells X := by unfold biCells; rw [List.flatMap_cons]
theorem biCells_length : ∀ (X : List BI), (biCells X).length = X.length * 4
  | [] => rfl
  | x :: X => by
    have := biCells_length X
    rw [biCells_cons, List.length_append, this, List.length_cons]
    show 4 + _ = _
    omega
theorem biCells_get : ∀ (X : List BI) (k : Nat) (h : k < X.length) (j : Nat), j < 4 → (biCells X)[k * 4 + j]? = (biC (X[k]'h))[j]?
  | x :: X, 0, _, j, hj => by
    rw [biCells_cons, Nat.zero_mul, Nat.zero_add, List.getElem?_append_left (by exact hj)]
    rfl
  | x :: X, k + 1, h, j, hj => by
    have ih := biCells_get X k (by simpa using h) j hj
    rw [biCells_cons, List.getElem?_append_right (by show 4 ≤ _; omega), show (k + 1) * 4 + j - (biC x).length = k * 4 + j by show (k + 1) * 4 + j - 4 = _; omega, ih]
    rfl
structure AL (w : World) (B : Nat) (v : Value) (X : List BI) : Prop where
  row : w.ownsRow B 42 4 v X.length (biCells X)
  dat : ∀ x ∈ X, w.ownsRow B 5 1 x.v 25 ((pDa x.d).map B8)
def alB (v : Value) (X : List BI) : List Nat := v.ownBlock.toList ++ X.flatMap fun x => x.v.ownBlock.toList
theorem alB_v {v : Value} {X : List BI} {g : Nat} (h : v.ownBlock = some g) : g ∈ alB v X := List.mem_append_left _ (by simpa using h)
theorem alB_x {v : Value} {X : List BI} {x : BI} {g : Nat} (hx : x ∈ X) (h : x.v.ownBlock = some g) : g ∈ alB v X := List.mem_append_right _ (List.mem_flatMap.2 ⟨x, hx, by simpa using h⟩)
theorem AL.fr {S : List Nat} {w w' : World} {B : Nat} {v : Value} {X : List BI} (h : AL w B v X) (hf : Fr S w w') (hS : ∀ g, (v.ownBlock = some g ∨ ∃ x ∈ X, x.v.ownBlock = some g) → g ∉ S) : AL w' B v X :=
  ⟨own_fr h.row hf fun g hg => hS g (.inl hg), fun x hx => own_fr (h.dat x hx) hf fun g hg => hS g (.inr ⟨x, hx, hg⟩)⟩
theorem AL.keep {w w' : World} {B : Nat} {v : Value} {X : List BI} (h : AL w B v X) (hf : Fr [] w w') : AL w' B v X := h.fr hf (by simp)
theorem AL.nil (w : World) (B : Nat) : AL w B (.slice none 0 0) [] := ⟨World.ownsRow_nil _ _ _ _, fun _ h => (List.not_mem_nil h).elim⟩
theorem own_neR {w : World} {B B' e e' size size' n n' : Nat} {v v' : Value} {xs xs' : List Value} (h : w.ownsRow B e size v n xs) (h' : w.ownsRow B' e' size' v' n' xs') (he : e ≠ e') {g : Nat} (hg : v.ownBlock = some g) : v'.ownBlock ≠ some g := by
  rcases h.2 with ⟨rfl, _⟩ | ⟨g', cap, cur, rfl, _, hh, _⟩
  · cases hg
  · simp only [Value.ownBlock, Option.some.injEq] at hg
    subst hg
    intro hg'
    rcases h'.2 with ⟨rfl, _⟩ | ⟨g2, cap2, cur2, rfl, _, hh2, _⟩
    · cases hg'
    · simp only [Value.ownBlock, Option.some.injEq] at hg'
      subst hg'
      rw [hh] at hh2
      have := Option.some.inj hh2
      simp only [Obj.cells.injEq] at this
      exact he this.2.1
theorem AL.app {w w' : World} {B : Nat} {v v' : Value} {X : List BI} {y : BI} (h : AL w B v X) (hy : w.ownsRow B 5 1 y.v 25 ((pDa y.d).map B8)) (ha : App w w' B 42 4 v v' X.length 1 (biCells X) (biC y)) : AL w' B v' (X ++ [y]) := by
  have hf := app_frZ ha
  refine ⟨by rw [List.length_append, biCells_snoc]; exact ha.own, fun x hx => ?_⟩
  rcases List.mem_append.1 hx with hx | hx
  · exact own_fr (h.dat x hx) hf fun i hi hm => own_neR (h.dat x hx) h.row (by decide) hi (by simpa using hm)
  · rw [List.mem_singleton.1 hx]
    exact own_fr hy hf fun i hi hm => own_neR hy h.row (by decide) hi (by simpa using hm)
/-- what along's loop holds -/
structure LJ (w0 wr : World) (mb nm : Nat) (L M : List Nat) (X : List BI) (v4 v5 : Value) : Prop where
  i4 : wr.ownsRow w0.heap.size 3 1 v4 M.length (M.map fun (k : Nat) => Value.int .i64 k)
  al : AL wr w0.heap.size v5 X
  mm : MetM wr mb nm L
  fr : Fr [] w0 wr
  hmb : w0.heap.size ≤ mb
theorem LJ.still {w0 wr w' : World} {mb nm : Nat} {L M : List Nat} {X : List BI} {v4 v5 : Value} (h : LJ w0 wr mb nm L M X v4 v5) (hf : Fr [] wr w') : LJ w0 w' mb nm L M X v4 v5 :=
  ⟨own_fr h.i4 hf (by simp), h.al.keep hf, h.mm.fr hf (by simp), h.fr.trans hf, h.hmb⟩
theorem LJ.map {w0 wr w' : World} {mb nm n' : Nat} {L L' M : List Nat} {X : List BI} {v4 v5 : Value} (h : LJ w0 wr mb nm L M X v4 v5) (hf : Fr [mb] wr w') (hm : MetM w' mb n' L') : LJ w0 w' mb n' L' M X v4 v5 :=
  ⟨own_fr h.i4 hf (fun g hg hm => by simp at hm; subst hm; exact h.mm.neq h.i4 hg), h.al.fr hf (fun g hg hm => by
    simp at hm
    subst hm
    rcases hg with hg | ⟨x, hx, hg⟩
    · exact h.mm.neq h.al.row hg
    · exact h.mm.neq (h.al.dat x hx) hg), hm, h.fr.next hf (fun i hi hlt => by simp at hi; have := h.hmb; omega), h.hmb⟩
theorem LJ.app4 {w0 wr w' : World} {mb nm : Nat} {L M : List Nat} {X : List BI} {v4 v4' v5 : Value} {k : Nat} (h : LJ w0 wr mb nm L M X v4 v5) (ha : App wr w' w0.heap.size 3 1 v4 v4' M.length 1 (M.map fun (k : Nat) => Value.int .i64 k) [.int .i64 (k : Nat)]) : LJ w0 w' mb nm L (M ++ [k]) X v4' v5 := by
  have hf := app_frZ ha
  refine ⟨by rw [List.length_append, List.map_append]; exact ha.own, h.al.fr hf fun g hg hm => ?_, h.mm.fr hf fun hm => h.mm.neq h.i4 (by simpa using hm), h.fr.next hf fun i hi hlt => ?_, h.hmb⟩
  · have hv : v4.ownBlock = some g := by simpa using hm
    rcases hg with hg | ⟨x, hx, hg⟩
    · exact own_neR h.i4 h.al.row (by decide) hv hg
    · exact own_neR h.i4 (h.al.dat x hx) (by decide) hv hg
  · have := (own_lt h.i4 (g := i) (by simpa using hi)).1
    omega
theorem LJ.app5 {w0 wr w' : World} {mb nm : Nat} {L M : List Nat} {X : List BI} {v4 v5 v5' : Value} {y : BI} (h : LJ w0 wr mb nm L M X v4 v5) (hy : wr.ownsRow w0.heap.size 5 1 y.v 25 ((pDa y.d).map B8)) (ha : App wr w' w0.heap.size 42 4 v5 v5' X.length 1 (biCells X) (biC y)) : LJ w0 w' mb nm L M (X ++ [y]) v4 v5' := by
  have hf := app_frZ ha
  refine ⟨own_fr h.i4 hf fun g hg hm => own_neR h.i4 h.al.row (by decide) hg (by simpa using hm), h.al.app hy ha, h.mm.fr hf fun hm => h.mm.neq h.al.row (by simpa using hm), h.fr.next hf fun i hi hlt => ?_, h.hmb⟩
  have := (own_lt h.al.row (g := i) (by simpa using hi)).1
  omega
end Go.Proofs.Ytkcipbjikimlfaa
