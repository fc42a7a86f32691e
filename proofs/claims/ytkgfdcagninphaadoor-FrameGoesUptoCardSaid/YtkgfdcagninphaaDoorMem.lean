/- Slices as the walk has them: 'Bytes': the slice's address reads as a list of bytes; 'Fr S': of what was there only the blocks of S may have turned. No condition, no program. -/
import Derived.Test.YtkgfdcagninphaaDoorNum
import Derived.WalkSpells
import Derived.WalkLawsBesides
import Derived.Lib.Hide
import Derived.Laws.AppendOwnNone
namespace Go.Proofs.YtkgfdcagninphaaDoor
open Go.RowKit

/-- below the old heap's end only the blocks of S may have turned -/
structure Fr (S : List Nat) (w w' : World) : Prop where
  os : w'.os = w.os
  tape : w'.tape = w.tape
  output : w'.output = w.output
  size : w.heap.size ≤ w'.heap.size
  block : ∀ k, k < w.heap.size → k ∉ S → w'.heap[k]? = w.heap[k]?

theorem Fr.refl (S : List Nat) (w : World) : Fr S w w := ⟨rfl, rfl, rfl, Nat.le_refl _, fun _ _ _ => rfl⟩
theorem Fr.trans {S : List Nat} {a b c : World} (h : Fr S a b) (k : Fr S b c) : Fr S a c :=
  ⟨k.os.trans h.os, k.tape.trans h.tape, k.output.trans h.output, Nat.le_trans h.size k.size, fun i hi hn => (k.block i (Nat.lt_of_lt_of_le hi h.size) hn).trans (h.block i hi hn)⟩
/-- new blocks need not be named -/
theorem Fr.mono {S T : List Nat} {a b : World} (h : Fr S a b) (hs : ∀ k, k ∈ S → k < a.heap.size → k ∈ T) : Fr T a b :=
  ⟨h.os, h.tape, h.output, h.size, fun k hk hn => h.block k hk fun hm => hn (hs k hm hk)⟩
theorem Fr.next {S T : List Nat} {a b c : World} (h : Fr S a b) (k : Fr T b c) (hs : ∀ i, i ∈ T → i < a.heap.size → i ∈ S) : Fr S a c :=
  ⟨k.os.trans h.os, k.tape.trans h.tape, k.output.trans h.output, Nat.le_trans h.size k.size, fun i hi hn => (k.block i (Nat.lt_of_lt_of_le hi h.size) fun hm => hn (hs i hm hi)).trans (h.block i hi hn)⟩
theorem Fr.alloc {S : List Nat} {a w : World} (h : Fr S a w) (o : Obj) : Fr S a (w.alloc o) :=
  ⟨h.os, h.tape, h.output, by have := h.size; simp; omega, fun k hk hn => (Below.heap_alloc _ _ _ (Nat.lt_of_lt_of_le hk h.size)).trans (h.block k hk hn)⟩
theorem Fr.setCell {S : List Nat} {a w : World} (h : Fr S a w) {p : Addr} (hp : p.block < a.heap.size → p.block ∈ S) (u : Value) : Fr S a (w.setCell p u) :=
  ⟨h.os, h.tape, h.output, by have := h.size; simp [World.setCell]; omega, fun k hk hn => (Below.heap_setCell _ _ _ _ (fun e => hn (by rw [e]; exact hp (by rw [← e]; exact hk)))).trans (h.block k hk hn)⟩
theorem Fr.setRow {S : List Nat} {a w : World} (h : Fr S a w) {g : Nat} (hp : g < a.heap.size → g ∈ S) (cs : Array Value) : Fr S a (w.setRow g cs) :=
  ⟨h.os, h.tape, h.output, by have := h.size; simp; omega, fun k hk hn => (setRow_other w g k cs (fun e => hn (by rw [e]; exact hp (by rw [← e]; exact hk)))).trans (h.block k hk hn)⟩
theorem Fr.drew {S : List Nat} {a w : World} (h : Fr S a w) : Fr S a w.drew := ⟨h.os, h.tape, h.output, h.size, h.block⟩
theorem Fr.drewN {S : List Nat} {a w : World} (h : Fr S a w) (n : Nat) : Fr S a (w.drewN n) := ⟨h.os, h.tape, h.output, h.size, h.block⟩
theorem Fr.below {a w : World} (h : Fr [] a w) : Below a.heap.size a w := ⟨h.os, h.tape, h.output, h.size, fun k hk => h.block k hk (by simp)⟩
theorem Fr.of_below {B : Nat} {a w : World} (h : Below B a w) (hB : a.heap.size ≤ B) : Fr [] a w := ⟨h.os, h.tape, h.output, h.size, fun k hk _ => h.block k (Nat.lt_of_lt_of_le hk hB)⟩
theorem Fr.of_grown {a w : World} {row : Option Nat} (h : a.grownBy w row) (S : List Nat) (hr : ∀ k, row = some k → k < a.heap.size → k ∈ S) : Fr S a w :=
  ⟨h.os, h.tape, h.output, h.size, fun k hk hn => h.block k hk (fun e => hn (hr k e.symm hk))⟩
theorem Fr.cell {S : List Nat} {w w' : World} (h : Fr S w w') {p : Addr} {v : Value} (hc : w.cell? p = some v) (hn : p.block ∉ S) : w'.cell? p = some v :=
  (World.cell?_of_block (w := w) (h.block p.block (World.block_lt_of_cell? w p hc) hn)).trans hc
theorem Fr.obj {S : List Nat} {w w' : World} (h : Fr S w w') {k : Nat} {o : Obj} (hc : w.heap[k]? = some o) (hn : k ∉ S) : w'.heap[k]? = some o :=
  (h.block k (Array.getElem?_eq_some_iff.1 hc).1 hn).trans hc

/-- the slice at this address reads as these bytes -/
def Bytes (w : World) (a : Option Addr) (l : List UInt8) : Prop :=
  l = [] ∨ ∃ b off, a = some ⟨b, off, none⟩ ∧ ∀ j, j < l.length → w.cell? ⟨b, off + j, none⟩ = some (B8 (l.getD j 0))
/-- .. and lies in none of these blocks -/
def Off (a : Option Addr) (l : List UInt8) (S : List Nat) : Prop := l = [] ∨ ∀ ad, a = some ad → ad.block ∉ S
theorem Bytes.nil (w : World) (a : Option Addr) : Bytes w a [] := Or.inl rfl
theorem Bytes.fr {S : List Nat} {w w' : World} {a : Option Addr} {l : List UInt8} (h : Bytes w a l) (hf : Fr S w w') (ho : Off a l S) : Bytes w' a l := by
  rcases h with rfl | ⟨b, off, rfl, hc⟩
  · exact Or.inl rfl
  · rcases ho with rfl | ho
    · exact Or.inl rfl
    · exact Or.inr ⟨b, off, rfl, fun j hj => hf.cell (hc j hj) (ho ⟨b, off, none⟩ rfl)⟩
theorem Bytes.keep {w w' : World} {a : Option Addr} {l : List UInt8} (h : Bytes w a l) (hf : Fr [] w w') : Bytes w' a l := h.fr hf (Or.inr fun _ _ => by simp)
theorem Bytes.at {w : World} {a : Option Addr} {l : List UInt8} (h : Bytes w a l) (hl : 0 < l.length) : ∃ b off, a = some ⟨b, off, none⟩ ∧ ∀ j, j < l.length → w.cell? ⟨b, off + j, none⟩ = some (B8 (l.getD j 0)) := by
  rcases h with rfl | h
  · simp at hl
  · exact h
/-- what the call owns reads as what it owns -/
theorem Bytes.of_own {w : World} {B e : Nat} {v : Value} {l : List UInt8} (h : w.ownsRow B e 1 v l.length (l.map B8)) : ∃ a cap, v = .slice a l.length cap ∧ Bytes w a l ∧ l.length ≤ cap ∧ cap ≤ maxLen ∧ (a = none → cap = 0) ∧ (∀ ad, a = some ad → B ≤ ad.block ∧ ad.off = 0 ∧ ad.spot = none) := by
  have hx := h.2
  rcases hx with ⟨rfl, hn⟩ | ⟨g, cap, cur, rfl, hg, hh, hn, hm, hs, ht⟩
  · have : l = [] := List.eq_nil_of_length_eq_zero hn
    subst this
    exact ⟨none, 0, rfl, Or.inl rfl, Nat.le_refl _, Nat.zero_le _, fun _ => rfl, fun _ h => by cases h⟩
  · refine ⟨_, cap, rfl, Or.inr ⟨g, 0, rfl, fun j hj => ?_⟩, hn, hm, (fun h => by cases h), fun ad had => by cases had; exact ⟨hg, rfl, rfl⟩⟩
    have hu : (l.map B8)[j]? = some (B8 (l.getD j 0)) := by simp [List.getD, hj]
    have := h.cells (g := g) rfl j _ hu
    rwa [Addr.add_lit] at this
/-- its cells as the laws on append ask for them -/
theorem Bytes.news {w : World} {ad : Addr} {l : List UInt8} (h : Bytes w (some ad) l) : ∀ j u, (l.map B8)[j]? = some u → w.cell? (ad.add j) = some u := by
  intro j u hu
  have hj : j < l.length := by
    have := (List.getElem?_eq_some_iff.1 hu).1
    simpa using this
  obtain ⟨b, off, e, hc⟩ := h.at (by omega)
  cases e
  rw [Addr.add_lit, hc j hj]
  have : (l.map B8)[j]? = some (B8 (l.getD j 0)) := by simp [List.getD, hj]
  rw [this] at hu
  exact hu
theorem B8_one (l : List UInt8) : ∀ u ∈ l.map B8, u.oneCell' = true := by
  intro u hu
  obtain ⟨_, _, rfl⟩ := List.mem_map.1 hu
  rfl
/-- a new block that is written out -/
theorem Bytes.lit {w : World} {g : Nat} {arr : Array Value} {t : Nat} {fr : Nat × Nat} (ns : List Nat) (hg : g = w.heap.size) (h : ns.all (· < 256) = true) (ha : arr = (ns.map fun (n : Nat) => Value.int .u8 (n : Int)).toArray) : Bytes (w.alloc (.cells arr t fr)) (some ⟨g, 0, none⟩) (lb ns) := by
  subst ha
  subst hg
  refine Or.inr ⟨w.heap.size, 0, rfl, fun j hj => ?_⟩
  rw [Nat.zero_add, cell_of_row _ _ j _ t fr (heap_alloc_new w _), ← lb_vals ns h, List.getElem?_toArray]
  simp [List.getD, hj]
/-- append to a slice of the call's own, whatever the source: bytes -/
theorem wpList_appB {P : Program} (w : World) {ops : Array Oper} {rest : List Oper} {o : Oper} {a : Act} {Q : Exit → Act → World → Prop} (hgd : o.guard = none) (s x : Operand) (t : TypeId)
    (ho : o.op = .call { callee := .builtin .append, args := #[s, x], argTypes := #[t, t] })
    (base : Nat) (e : TypeId) (ht : P.underlying t = some (.slice e)) (hinfo : (P.info? e).map (fun i => (i.zero, i.size, i.bytes)) = some (some (.int .u8 0), 1, 1))
    (v : Value) (xs : List UInt8) (hs : a.eval s = v) (hown : w.ownsRow base e 1 v xs.length (xs.map B8))
    (ao : Option Addr) (m c : Nat) (l : List UInt8) (hx : a.eval x = .slice ao m c) (hl : l.length = m) (hb : Bytes w ao l) (hnone : ao = none → c = 0)
    (hroom : xs.length + m ≤ 140737488355328) (hbase : base ≤ w.heap.size)
    (h : ∀ v' w', w'.ownsRow base e 1 v' (xs ++ l).length ((xs ++ l).map B8) → w.grownBy w' v.ownBlock → (v' = .slice none 0 0 ↔ v = .slice none 0 0 ∧ m = 0) → wpList P ops Q rest (a.put o.dst v') w') : wpList P ops Q (o :: rest) a w := by
  obtain ⟨i, hi, hz, hsz, hby⟩ := info_parts hinfo
  cases ao with
  | some ad =>
    refine wpList_append_own w hgd s x t ho base e i (.int .u8 0) 1 1 ht hi hz hsz hby rfl (by decide) v xs.length (xs.map B8) hs hown ad m c (l.map B8) hx (by simp [hl]) hb.news (B8_one l) (by unfold maxLen; omega) (by omega) hbase ?_
    intro v' w' h1 h2 h3
    refine h v' w' ?_ h2 h3
    rw [List.length_append, hl, List.map_append]; exact h1
  | none =>
    have hm : l = [] := by
      rcases hb with h | ⟨_, _, h, _⟩
      · exact h
      · cases h
    subst hm
    have hc := hnone rfl
    subst hc
    subst hl
    refine wpList_append_own_none hgd s x t ho base e i 1 ht hi v xs.length (xs.map B8) hs hown hx ?_
    refine h v w (by simpa using hown) (World.grownBy.refl _ _) ?_
    simp
/-- a slice literal without elements is the call's own -/
theorem own_empty (w : World) (e : TypeId) : (w.alloc (.cells #[] e)).ownsRow w.heap.size e 1 (.slice (some ⟨w.heap.size, 0, none⟩) 0 0) ([] : List UInt8).length (([] : List UInt8).map B8) :=
  World.ownsRow_made w #[] 0 (Nat.le_refl _) (by unfold maxLen; omega) rfl
theorem ret_eq {v v' : Value} (h : v = v') : Ending.returned v = Ending.returned v' := by rw [h]
/-- a part of a list of bytes -/
theorem Bytes.sub {w : World} {b off : Nat} {l : List UInt8} (h : Bytes w (some ⟨b, off, none⟩) l) (p n : Nat) (hp : p + n ≤ l.length) : Bytes w (some ⟨b, off + p, none⟩) ((l.drop p).take n) := by
  rcases Nat.eq_zero_or_pos n with h0 | hpos
  · subst h0; exact Or.inl (by simp)
  · obtain ⟨b', off', e, hc⟩ := h.at (by omega)
    cases e
    refine Or.inr ⟨b, off + p, rfl, fun j hj => ?_⟩
    have hjn : j < n := by simp at hj; omega
    have := hc (p + j) (by omega)
    rw [Nat.add_assoc, this]
    simp [List.getD, hjn]
end Go.Proofs.YtkgfdcagninphaaDoor
