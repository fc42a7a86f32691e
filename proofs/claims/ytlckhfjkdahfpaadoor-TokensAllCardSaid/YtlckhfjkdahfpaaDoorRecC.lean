/- The leaves of the records' layers: ranges, copies, comparison of bytes. -/
import Derived.Test.YtlckhfjkdahfpaaDoorWireN
import Derived.Test.YtlckhfjkdahfpaaDoorWireK
import Derived.Deep.RegionHeld3
import Derived.Deep.DrawnRows
namespace Go.Proofs.YtlckhfjkdahfpaaDoor
open Go.RowKit

/-- low or more, and below most -/
def inB (n low most : Int) : Bool := decide (low ≤ n) && decide (n < most)
theorem inB_iff {n low most : Int} : inB n low most = true ↔ low ≤ n ∧ n < most := by unfold inB; simp
theorem inB_true {n low most : Int} (h : low ≤ n) (h2 : n < most) : inB n low most = true := inB_iff.2 ⟨h, h2⟩
theorem inB_false {n low most : Int} (h : ¬ (low ≤ n ∧ n < most)) : inB n low most = false := by
  cases e : inB n low most
  · rfl
  · exact absurd (inB_iff.1 e) h
theorem ret_bool {a b : Bool} (h : a = b) : Ending.returned (.bool a) = Ending.returned (.bool b) := by rw [h]
/-- the address reads as these numbers -/
def Ints (w : World) (a : Option Addr) (l : List Int) : Prop :=
  l = [] ∨ ∃ b off, a = some ⟨b, off, none⟩ ∧ ∀ j, j < l.length → w.cell? ⟨b, off + j, none⟩ = some (.int .i64 (l.getD j 0))
theorem Ints.nil (w : World) (a : Option Addr) : Ints w a [] := Or.inl rfl
theorem Ints.at {w : World} {a : Option Addr} {l : List Int} (h : Ints w a l) (hl : 0 < l.length) : ∃ b off, a = some ⟨b, off, none⟩ ∧ ∀ j, j < l.length → w.cell? ⟨b, off + j, none⟩ = some (.int .i64 (l.getD j 0)) := by
  rcases h with rfl | h
  · simp at hl
  · exact h
theorem Ints.fr {S : List Nat} {w w' : World} {a : Option Addr} {l : List Int} (h : Ints w a l) (hf : Fr S w w') (ho : l = [] ∨ ∀ ad, a = some ad → ad.block ∉ S) : Ints w' a l := by
  rcases h with rfl | ⟨b, off, rfl, hc⟩
  · exact Or.inl rfl
  · rcases ho with rfl | ho
    · exact Or.inl rfl
    · exact Or.inr ⟨b, off, rfl, fun j hj => hf.cell (hc j hj) (ho ⟨b, off, none⟩ rfl)⟩
theorem Ints.keep {w w' : World} {a : Option Addr} {l : List Int} (h : Ints w a l) (hf : Fr [] w w') : Ints w' a l := h.fr hf (Or.inr fun _ _ => by simp)
/-- a new block that holds these numbers -/
theorem Ints.new {w : World} {arr : Array Value} {t : Nat} {fr : Nat × Nat} {g : Nat} (l : List Int) (hg : g = w.heap.size) (ha : arr = (l.map (Value.int .i64)).toArray) : Ints (w.alloc (.cells arr t fr)) (some ⟨g, 0, none⟩) l := by
  subst ha
  subst hg
  refine Or.inr ⟨w.heap.size, 0, rfl, fun j hj => ?_⟩
  rw [Nat.zero_add, cell_of_row _ _ j _ t fr (heap_alloc_new w _), List.getElem?_toArray]
  simp [List.getD, hj]
theorem same_any (a b : Option Addr) (c d : Nat) (l m : List UInt8) (w : World) (hna : a = none → c = 0) (hnb : b = none → d = 0) (ha : Bytes w a l) (hb : Bytes w b m) :
    Calls Tryd.prog 22 #[.slice a l.length c, .slice b m.length d] w fun e w' => e = .returned (.bool (l == m)) ∧ w = w' := by
  have h1 := conv_any a c l w hna ha
  have h2 := conv_any b d m w hnb hb
  clear hna hnb
  go_enter Tryd.func22, Tryd.ntmps22
  go_wp2_with fail
  go_ret
  exact ⟨rfl, rfl⟩
end Go.Proofs.YtlckhfjkdahfpaaDoor

/- The walks of numbers put and read in the records' layers. -/
namespace Go.Proofs.YtlckhfjkdahfpaaDoor
open Go.RowKit

/-- a number that stands in bytes -/
def nm (l : List UInt8) (q wd : Nat) : Nat := be ((l.drop q).take wd)
theorem nm_def (l : List UInt8) (q wd : Nat) : nm l q wd = be ((l.drop q).take wd) := rfl
theorem nm_le (l : List UInt8) (q wd : Nat) (h : wd ≤ 4) : nm l q wd ≤ 4294967295 := by
  have h1 := be_lt ((l.drop q).take wd)
  have h2 : 256 ^ ((l.drop q).take wd).length ≤ 256 ^ 4 := Nat.pow_le_pow_right (by omega) (by rw [List.length_take]; omega)
  have h3 : (256 : Nat) ^ 4 = 4294967296 := by simp
  unfold nm
  omega
theorem nm_le1 (l : List UInt8) (q : Nat) : nm l q 1 ≤ 255 := by
  have h1 := be_lt ((l.drop q).take 1)
  have h2 : 256 ^ ((l.drop q).take 1).length ≤ 256 ^ 1 := Nat.pow_le_pow_right (by omega) (by rw [List.length_take]; omega)
  unfold nm
  omega
attribute [irreducible] nm
theorem by8_nm (l : List UInt8) (q wd : Nat) (h : q + wd ≤ l.length) : by8 wd (nm l q wd) = (l.drop q).take wd := by
  have := by8_be ((l.drop q).take wd)
  rwa [show ((l.drop q).take wd).length = wd by rw [List.length_take, List.length_drop]; omega, ← nm_def] at this
theorem nm_at (a b r : List UInt8) (n wd : Nat) (hb : b = by8 wd n) (h : n < 256 ^ wd) : nm (a ++ (b ++ r)) a.length wd = n := by
  subst hb
  rw [nm_def, List.drop_left, List.take_append_of_le_length (by rw [by8_length]; omega), List.take_of_length_le (by rw [by8_length]; omega), be_by8, Nat.mod_eq_of_lt h]
theorem wrapU_int (z : Int) (h : 0 ≤ z) (h2 : z < 18446744073709551616) : IntKind.u64.wrap z = z := by
  rw [wrap64u]; omega
theorem U_int' (z : Int) (h : 0 ≤ z) (h2 : z < 18446744073709551616) : U z.toNat = z := by
  rw [U_lt _ (by omega)]; omega

theorem Num_int (B p : Nat) (v : Value) (l : List UInt8) (wd : Nat) (z : Int) (w : World) (ho : w.heap[p]? = some (.cells #[v] 121)) (hown : w.ownsRow B 5 1 v l.length (l.map B8)) (hne : v.ownBlock ≠ some p) (hB : B ≤ w.heap.size)
    (hw : Wd wd) (h0 : 0 ≤ z) (h1 : z < 18446744073709551616) (hroom : l.length ≤ 140737488351300) :
    Calls Tryd.prog 60 #[.pointer (some ⟨p, 0, none⟩), .int .i64 wd, .int .u64 z] w fun e w' => e = .returned (.tuple #[]) ∧ ∃ v', Puts B w w' p v v' (l ++ by8 wd z.toNat) := by
  have := Num_yes B p v l wd z.toNat w ho hown hne hB hw (by omega) (by omega)
  rwa [U_int' z h0 h1] at this
theorem refnum_int (wd : Nat) (z : Int) (w : World) (hw : Wd wd) (h0 : 0 ≤ z) (h1 : z < 18446744073709551616) :
    Calls Tryd.prog 65 #[.int .i64 wd, .int .u64 z] w fun e w' => ∃ v, e = .returned v ∧ Fresh w.heap.size w w' v (by8 wd z.toNat) := by
  have := refnum_yes wd z.toNat w hw (by omega)
  rwa [U_int' z h0 h1] at this
/-- the bytes of pointers -/
def ptrs (l : List Int) : List UInt8 := l.flatMap fun n => by8 4 (n + 1).toNat
theorem ptrs_length (l : List Int) : (ptrs l).length = 4 * l.length := by
  induction l with
  | nil => rfl
  | cons x l ih =>
    unfold ptrs at ih ⊢
    rw [List.flatMap_cons, List.length_append, ih, by8_length, List.length_cons]; omega
theorem ptrs_snoc (l : List Int) (x : Int) : ptrs (l ++ [x]) = ptrs l ++ by8 4 (x + 1).toNat := by
  unfold ptrs; rw [List.flatMap_append]; simp
theorem RdNum_at (l : List UInt8) (p g q wd : Nat) (w : World) (h : RdSt w l p g q 0) (hl : l.length ≤ 140737488351300) (hb : Bytes w (some ⟨g, 0, none⟩) l) (hgp : g ≠ p) (hw : Wd wd) (hwd : wd ≤ 4) (hq : q + wd ≤ l.length) :
    Calls Tryd.prog 71 #[.pointer (some ⟨p, 0, none⟩), .int .i64 wd] w fun x w' => x = .returned (.int .u64 (nm l q wd)) ∧ RdSt w' l p g (q + wd) 0 ∧ Fr [p] w w' := by
  have H := RdNum_any l p g q 0 wd w h hl hb hgp
  have hz := isWd_nat wd hw
  obtain ⟨e1, e2, e3⟩ := r_yes (l := l) (q := q) (k := wd) (by omega)
  have en : rNum l q 0 wd = nm l q wd := by unfold rNum; rw [hz, e1, nm_def]
  rw [en, U_lt _ (by have := nm_le l q wd hwd; omega)] at H
  rw [hz, e2, e3] at H
  exact H
theorem RdRaw_at (l : List UInt8) (p g q n : Nat) (w : World) (h : RdSt w l p g q 0) (hl : l.length ≤ 140737488351300) (hb : Bytes w (some ⟨g, 0, none⟩) l) (hgp : g ≠ p) (hq : q + n ≤ l.length) :
    Calls Tryd.prog 70 #[.pointer (some ⟨p, 0, none⟩), .int .i64 n] w fun x w' => ∃ v, x = .returned v ∧ w'.ownsRow w.heap.size 5 1 v ((l.drop q).take n).length (((l.drop q).take n).map B8) ∧ RdSt w' l p g (q + n) 0 ∧ Fr [p] w w' := by
  have H := RdRaw_any l p g q 0 n w h hl hb hgp
  obtain ⟨e1, e2, e3⟩ := r_yes (l := l) (q := q) (k := n) (by omega)
  rw [e1, e2, e3] at H
  exact H
/-- what 'get' lays into a struct's cells -/
def fills (l : List UInt8) (q : Nat) (cs : List Value) (os : List Nat) : Nat → List Value
  | 0 => cs
  | k + 1 => (fills l q cs os k).set (os.getD k 0) (.int .i64 ((nm l (q + 4 * k) 4 : Int) - 1))
theorem fills_length (l : List UInt8) (q : Nat) (cs : List Value) (os : List Nat) (k : Nat) : (fills l q cs os k).length = cs.length := by
  induction k with
  | zero => rfl
  | succ k ih => rw [fills, List.length_set, ih]
end Go.Proofs.YtlckhfjkdahfpaaDoor

/- The walks of the document's helpers for records: pieces joined, pointers, numbers at a place. -/
namespace Go.Proofs.YtlckhfjkdahfpaaDoor
open Go.RowKit

end Go.Proofs.YtlckhfjkdahfpaaDoor
