/- The leaves of the records' layers: ranges, copies, comparison of bytes. -/
import Derived.Test.YtbhmfbhfofgfaaaWireN
import Derived.Test.YtbhmfbhfofgfaaaWireK
import Derived.Deep.RegionHeld3
import Derived.Deep.DrawnRows
namespace Go.Proofs.Ytbhmfbhfofgfaaa
open Go.RowKit

/-- low or more, and below most -/
def inB (n low most : Int) : Bool := decide (low ≤ n) && decide (n < most)
theorem inB_iff {n low most : Int} : inB n low most = true ↔ low ≤ n ∧ n < most := by unfold inB; simp
theorem inB_true {n low most : Int} (h : low ≤ n) (h2 : n < most) : inB n low most = true := inB_iff.2 ⟨h, h2⟩
theorem inB_false {n low most : Int} (h : ¬ (low ≤ n ∧ n < most)) : inB n low most = false := by
  cases e : inB n low most
  · rfl
  · exact absurd (inB_iff.1 e) h
theorem ret_bool {a b : Bool} (h : a = b) : Ending.returned (.bool a) = Ending.returned (.bool b) := by rw [h]
theorem In_any (n low most : Int) (w : World) : Calls Try.prog 29 #[.int .i64 n, .int .i64 low, .int .i64 most] w fun e w' => e = .returned (.bool (inB n low most)) ∧ w = w' := by
  by_cases h1 : low ≤ n
  · by_cases h2 : n < most
    · have H := Lib.hid (inB_true h1 h2)
      go_enter Try.func29, Try.ntmps29
      go_wp2
      go_ret
      exact ⟨ret_bool H.out.symm, rfl⟩
    · have H := Lib.hid (inB_false (n := n) (low := low) (most := most) (by omega))
      go_enter Try.func29, Try.ntmps29
      go_wp2
      go_ret
      exact ⟨ret_bool H.out.symm, rfl⟩
  · have H := Lib.hid (inB_false (n := n) (low := low) (most := most) (by omega))
    go_enter Try.func29, Try.ntmps29
    go_wp2
    go_ret
    exact ⟨ret_bool H.out.symm, rfl⟩
/-- the address reads as these numbers -/
def Ints (w : World) (a : Option Addr) (l : List Int) : Prop :=
  l = [] ∨ ∃ b off, a = some ⟨b, off, none⟩ ∧ ∀ j, j < l.length → w.cell? ⟨b, off + j, none⟩ = some (.int .i64 (l.getD j 0))
theorem Ints.nil (w : World) (a : Option Addr) : Ints w a [] := Or.inl rfl
theorem Ints.at {w : World} {a : Option Addr} {l : List Int} (h : Ints w a l) (hl : 0 < l.length) : ∃ b off, a = some ⟨b, off, none⟩ ∧ ∀ j, j < l.length → w.cell? ⟨b, off + j, none⟩ = some (.int .i64 (l.getD j 0)) := by
  rcases h with rfl | h
  · simp at hl
  · exact h
theorem Ints.fr {S : List Nat} {w w' : World} {a : Option Addr} {l : List Int} (h : Ints w a l) (hf : Fr S w w') (ho : l = [] ∨ ∀ ad, a = some ad → ad.block ∉ S) : Ints w' a l := by
  rcases h with rfl | ⟨b, off, rfl, hc⟩
  · exact Or.inl rfl
  · rcases ho with rfl | ho
    · exact Or.inl rfl
    · exact Or.inr ⟨b, off, rfl, fun j hj => hf.cell (hc j hj) (ho ⟨b, off, none⟩ rfl)⟩
theorem Ints.keep {w w' : World} {a : Option Addr} {l : List Int} (h : Ints w a l) (hf : Fr [] w w') : Ints w' a l := h.fr hf (Or.inr fun _ _ => by simp)
/-- a new block that holds these numbers -/
theorem Ints.new {w : World} {arr : Array Value} {t : Nat} {fr : Nat × Nat} {g : Nat} (l : List Int) (hg : g = w.heap.size) (ha : arr = (l.map (Value.int .i64)).toArray) : Ints (w.alloc (.cells arr t fr)) (some ⟨g, 0, none⟩) l := by
  subst ha
  subst hg
  refine Or.inr ⟨w.heap.size, 0, rfl, fun j hj => ?_⟩
  rw [Nat.zero_add, cell_of_row _ _ j _ t fr (heap_alloc_new w _), List.getElem?_toArray]
  simp [List.getD, hj]
theorem clone_any (a : Option Addr) (cap : Nat) (l : List UInt8) (w : World) (hl : l.length ≤ 140737488351300) (hno : a = none → cap = 0) (hb : Bytes w a l) :
    Calls Try.prog 15 #[.slice a l.length cap] w fun e w' => ∃ v, e = .returned v ∧ Fresh w.heap.size w w' v l := by
  have hb2 : Bytes (w.alloc (.cells #[] 5)) a l := hb.keep ((Fr.refl _ _).alloc _)
  have HN := Lib.hid hno
  clear hno
  go_enter Try.func15, Try.ntmps15
  go_wp2_with (at_builtin; refine wpList_apB _ rfl _ _ 27 rfl w.heap.size 5 Try.underlying27 info8 (.slice (some ⟨w.heap.size, 0, none⟩) 0 0) [] rfl (own_empty w 5) a _ cap l rfl rfl hb2 HN.out (by simp; omega) (by simp) ?_; intro v' w1 happ; have HA := Lib.hid happ; clear happ)
  go_ret
  have ha := HA.out
  refine ⟨v', rfl, Fresh.mk ?_ (fun e => by have := (ha.nil.1 e).1; cases this) (((Fr.refl _ _).alloc _).next ha.fr (by intro i hi hlt; simp [Value.ownBlock] at hi; omega))⟩
  have h := ha.own
  simpa only [List.nil_append] using h
theorem same_any (a b : Option Addr) (c d : Nat) (l m : List UInt8) (w : World) (hna : a = none → c = 0) (hnb : b = none → d = 0) (ha : Bytes w a l) (hb : Bytes w b m) :
    Calls Try.prog 13 #[.slice a l.length c, .slice b m.length d] w fun e w' => e = .returned (.bool (l == m)) ∧ w = w' := by
  have h1 := conv_any a c l w hna ha
  have h2 := conv_any b d m w hnb hb
  clear hna hnb
  go_enter Try.func13, Try.ntmps13
  go_wp2_with fail
  go_ret
  exact ⟨rfl, rfl⟩
end Go.Proofs.Ytbhmfbhfofgfaaa

/- The walks of numbers put and read in the records' layers. -/
namespace Go.Proofs.Ytbhmfbhfofgfaaa
open Go.RowKit

/-- a number that stands in bytes -/
def nm (l : List UInt8) (q wd : Nat) : Nat := be ((l.drop q).take wd)
theorem nm_def (l : List UInt8) (q wd : Nat) : nm l q wd = be ((l.drop q).take wd) := rfl
theorem nm_le (l : List UInt8) (q wd : Nat) (h : wd ≤ 4) : nm l q wd ≤ 4294967295 := by
  have h1 := be_lt ((l.drop q).take wd)
  have h2 : 256 ^ ((l.drop q).take wd).length ≤ 256 ^ 4 := Nat.pow_le_pow_right (by omega) (by rw [List.length_take]; omega)
  have h3 : (256 : Nat) ^ 4 = 4294967296 := by simp
  unfold nm
  omega
theorem nm_le1 (l : List UInt8) (q : Nat) : nm l q 1 ≤ 255 := by
  have h1 := be_lt ((l.drop q).take 1)
  have h2 : 256 ^ ((l.drop q).take 1).length ≤ 256 ^ 1 := Nat.pow_le_pow_right (by omega) (by rw [List.length_take]; omega)
  unfold nm
  omega
attribute [irreducible] nm
theorem by8_nm (l : List UInt8) (q wd : Nat) (h : q + wd ≤ l.length) : by8 wd (nm l q wd) = (l.drop q).take wd := by
  have := by8_be ((l.drop q).take wd)
  rwa [show ((l.drop q).take wd).length = wd by rw [List.length_take, List.length_drop]; omega, ← nm_def] at this
theorem nm_at (a b r : List UInt8) (n wd : Nat) (hb : b = by8 wd n) (h : n < 256 ^ wd) : nm (a ++ (b ++ r)) a.length wd = n := by
  subst hb
  rw [nm_def, List.drop_left, List.take_append_of_le_length (by rw [by8_length]; omega), List.take_of_length_le (by rw [by8_length]; omega), be_by8, Nat.mod_eq_of_lt h]
theorem wrapU_int (z : Int) (h : 0 ≤ z) (h2 : z < 18446744073709551616) : IntKind.u64.wrap z = z := by
  rw [wrap64u]; omega
theorem U_int' (z : Int) (h : 0 ≤ z) (h2 : z < 18446744073709551616) : U z.toNat = z := by
  rw [U_lt _ (by omega)]; omega

theorem Num_int (B p : Nat) (v : Value) (l : List UInt8) (wd : Nat) (z : Int) (w : World) (ho : w.heap[p]? = some (.cells #[v] 111)) (hown : w.ownsRow B 5 1 v l.length (l.map B8)) (hne : v.ownBlock ≠ some p) (hB : B ≤ w.heap.size)
    (hw : Wd wd) (h0 : 0 ≤ z) (h1 : z < 18446744073709551616) (hroom : l.length ≤ 140737488351300) :
    Calls Try.prog 58 #[.pointer (some ⟨p, 0, none⟩), .int .i64 wd, .int .u64 z] w fun e w' => e = .returned (.tuple #[]) ∧ ∃ v', Puts B w w' p v v' (l ++ by8 wd z.toNat) := by
  have := Num_yes B p v l wd z.toNat w ho hown hne hB hw (by omega) (by omega)
  rwa [U_int' z h0 h1] at this
theorem refnum_int (wd : Nat) (z : Int) (w : World) (hw : Wd wd) (h0 : 0 ≤ z) (h1 : z < 18446744073709551616) :
    Calls Try.prog 45 #[.int .i64 wd, .int .u64 z] w fun e w' => ∃ v, e = .returned v ∧ Fresh w.heap.size w w' v (by8 wd z.toNat) := by
  have := refnum_yes wd z.toNat w hw (by omega)
  rwa [U_int' z h0 h1] at this
/-- the bytes of pointers -/
def ptrs (l : List Int) : List UInt8 := l.flatMap fun n => by8 4 (n + 1).toNat
theorem ptrs_length (l : List Int) : (ptrs l).length = 4 * l.length := by
  induction l with
  | nil => rfl
  | cons x l ih =>
    unfold ptrs at ih ⊢
    rw [List.flatMap_cons, List.length_append, ih, by8_length, List.length_cons]; omega
theorem ptrs_snoc (l : List Int) (x : Int) : ptrs (l ++ [x]) = ptrs l ++ by8 4 (x + 1).toNat := by
  unfold ptrs; rw [List.flatMap_append]; simp
theorem RdNum_at (l : List UInt8) (p g q wd : Nat) (w : World) (h : RdSt w l p g q 0) (hl : l.length ≤ 140737488351300) (hb : Bytes w (some ⟨g, 0, none⟩) l) (hgp : g ≠ p) (hw : Wd wd) (hwd : wd ≤ 4) (hq : q + wd ≤ l.length) :
    Calls Try.prog 57 #[.pointer (some ⟨p, 0, none⟩), .int .i64 wd] w fun x w' => x = .returned (.int .u64 (nm l q wd)) ∧ RdSt w' l p g (q + wd) 0 ∧ Fr [p] w w' := by
  have H := RdNum_any l p g q 0 wd w h hl hb hgp
  have hz := isWd_nat wd hw
  obtain ⟨e1, e2, e3⟩ := r_yes (l := l) (q := q) (k := wd) (by omega)
  have en : rNum l q 0 wd = nm l q wd := by unfold rNum; rw [hz, e1, nm_def]
  rw [en, U_lt _ (by have := nm_le l q wd hwd; omega)] at H
  rw [hz, e2, e3] at H
  exact H
/-- what 'get' lays into a struct's cells -/
def fills (l : List UInt8) (q : Nat) (cs : List Value) (os : List Nat) : Nat → List Value
  | 0 => cs
  | k + 1 => (fills l q cs os k).set (os.getD k 0) (.int .i64 ((nm l (q + 4 * k) 4 : Int) - 1))
theorem fills_length (l : List UInt8) (q : Nat) (cs : List Value) (os : List Nat) (k : Nat) : (fills l q cs os k).length = cs.length := by
  induction k with
  | zero => rfl
  | succ k ih => rw [fills, List.length_set, ih]
end Go.Proofs.Ytbhmfbhfofgfaaa

/- The walks of the document's helpers for records: pieces joined, pointers, numbers at a place. -/
namespace Go.Proofs.Ytbhmfbhfofgfaaa
open Go.RowKit

set_option maxHeartbeats 400000 in
theorem Joined_grow (K : List Nat) (w0 w : World) (v : Value) (l : List UInt8) (a : Option Addr) (c : Nat) (m : List UInt8) (hg : Grow K w0 w v l) (hb : Bytes w a m) (hK : m = [] ∨ ∀ ad, a = some ad → v.ownBlock ≠ some ad.block ∧ ad.block < w.heap.size) (hroom : l.length + m.length ≤ 140737488351300) :
    Calls Try.prog 30 #[v, .slice a m.length c] w fun e w' => ∃ v', e = .returned v' ∧ Grow K w0 w' v' (l ++ m) ∧ Fr v.ownBlock.toList w w' ∧ (v'.ownBlock = v.ownBlock ∨ ∃ g, v'.ownBlock = some g ∧ w.heap.size ≤ g) := by
  have HG := Lib.hid hg
  have HB := Lib.hid hb
  have HK := Lib.hid hK
  clear hg hb hK
  go_enter Try.func30, Try.ntmps30
  go_wp2_with fail
  go_loopw [0, 5] (fun u i wr => ∃ k : Nat, k ≤ m.length ∧ i = .int .i64 k ∧ Grow K w0 wr u (l ++ m.take k) ∧ Fr v.ownBlock.toList w wr ∧ (u.ownBlock = v.ownBlock ∨ ∃ g, u.ownBlock = some g ∧ w.heap.size ≤ g)) (fun _ i _ => m.length - (intOf i).toNat)
  case atStart => exact ⟨0, by omega, rfl, by simpa using HG.out, Fr.refl _ _, .inl rfl⟩
  case round =>
    obtain ⟨k, hk, rfl, hgr, hf, hbl⟩ := hrel
    have HR := Lib.hid hgr
    have HF := Lib.hid hf
    have HBL := Lib.hid hbl
    clear hgr hf hbl
    by_cases hlt : k < m.length
    · obtain ⟨b, off, rfl, hc⟩ := HB.out.at (by omega)
      have hof := HK.out.resolve_left (by rintro rfl; simp at hlt) _ rfl
      have hcell : wr.cell? ⟨b, off + k, none⟩ = some (.int .u8 (I8 (m.getD k 0))) := HF.out.cell (hc k hlt) (by simp [hof.1])
      clear hc
      obtain ⟨x, hx⟩ : ∃ x, x = m.getD k 0 := ⟨_, rfl⟩
      rw [← hx] at hcell
      have HX := Lib.hid hx; clear hx
      have HT := Lib.hid (show (l ++ m.take k).length = l.length + k by rw [List.length_append, List.length_take]; omega)
      go_wp2_with (at_builtin; refine wpList_apB _ rfl _ _ 27 rfl w0.heap.size 5 Try.underlying27 info8 u0 (l ++ m.take k) rfl (HR.out.alloc _).own (some ⟨wr.heap.size, 0, none⟩) 1 1 [x] rfl rfl (Bytes.one x rfl) (fun h => by cases h) (by rw [HT.out]; omega) (HR.out.alloc _).size ?_; intro v' w1 happ; have HA := Lib.hid happ; clear happ)
      go_roundw
      case rel =>
        have ha := HA.out
        refine ⟨k + 1, by omega, by go_num, ?_, ?_, ?_⟩
        · have e : l ++ m.take (k + 1) = l ++ m.take k ++ [x] := by
            rw [take_snoc m k hlt, HX.out, ← List.append_assoc]; simp [List.getD, hlt]
          rw [e]
          exact (HR.out.alloc _).app ha
        · refine (HF.out.alloc _).next ha.fr fun i hi hlt2 => ?_
          rcases HBL.out with h | ⟨g, h, hg⟩
          · rw [h] at hi; exact hi
          · rw [h] at hi; simp at hi; omega
        · rcases ha.blk with h | ⟨g, h, hg⟩
          · rw [h]; exact HBL.out
          · exact .inr ⟨g, h, by have := HF.out.size; simp at hg; omega⟩
      case measure => simp [intOf] <;> omega
    · have HE := Lib.hid (show m.take k = m from List.take_of_length_le (by omega))
      go_wp2
      go_ret
      have := HR.out
      rw [HE.out] at this
      exact ⟨_, rfl, this, HF.out, HBL.out⟩
/-- .. onto what is known to grow, from new memory -/
theorem Joined_fresh (w0 w w1 : World) (v x : Value) (l m : List UInt8) (hg : Grow [] w0 w v l) (hx : Fresh w.heap.size w w1 x m) (hroom : l.length + m.length ≤ 140737488351300) :
    Calls Try.prog 30 #[v, x] w1 fun e w' => ∃ v', e = .returned v' ∧ Grow [] w0 w' v' (l ++ m) := by
  obtain ⟨g, cap, rfl, hgl, hlt, hb, hf⟩ := hx.bytes
  refine (Joined_grow [] w0 w1 v l _ cap m (hg.fr0 hf) hb (.inr fun ad e => by
    cases e
    exact ⟨fun e => by have h2 : g < w.heap.size := (own_lt hg.own e).2; omega, hlt⟩) hroom).mono ?_
  rintro e w' ⟨v', rfl, h, _⟩
  exact ⟨v', rfl, h⟩
theorem Ptr_any (z : Int) (w : World) (h0 : -1 ≤ z) (h1 : z ≤ 4294967294) :
    Calls Try.prog 32 #[.int .i64 z] w fun e w' => ∃ v, e = .returned v ∧ Fresh w.heap.size w w' v (by8 4 (z + 1).toNat) := by
  have hwr : IntKind.u64.wrap (z + 1) = z + 1 := wrapU_int _ (by omega) (by omega)
  go_enter Try.func32, Try.ntmps32
  go_wp2_with fail
  refine (refnum_int 4 (z + 1) w (by unfold Wd; omega) (by omega) (by omega)).mono ?_
  rintro e w' ⟨v, rfl, h⟩
  go_wp2
  go_ret
  exact ⟨v, rfl, h⟩
theorem at12_any (a : Option Addr) (c : Nat) (l : List UInt8) (wd p : Nat) (w : World) (hl : l.length ≤ 140737488351300) (hc : l.length ≤ c) (hb : Bytes w a l) (hw : Wd wd) (hwd : wd ≤ 4) (h : p + wd ≤ l.length) :
    Calls Try.prog 35 #[.slice a l.length c, .int .i64 p, .int .i64 wd] w fun e w' => e = .returned (.int .i64 (nm l p wd)) ∧ w = w' := by
  have hle := hw.le
  obtain ⟨b, off, rfl, _⟩ := hb.at (by omega)
  have HL := Lib.hid (show ((l.drop p).take wd).length = wd by rw [List.length_take, List.length_drop]; omega)
  have hn := nm_le l p wd hwd
  have hwi : IntKind.i64.wrap (U (nm l p wd)) = (nm l p wd : Int) := U_int _ (by omega)
  rw [nm_def] at hwi
  have HN := Lib.hid (nm_def l p wd)
  clear hn
  go_enter Try.func35, Try.ntmps35
  go_wp2_with fail
  have hnum := val_any (some ⟨b, off + p, none⟩) (c - p) ((l.drop p).take wd) w (by rw [HL.out]; omega) (hb.sub p wd h)
  rw [HL.out] at hnum
  refine hnum.mono ?_
  rintro e w' ⟨rfl, rfl⟩
  go_wp2
  go_ret
  exact ⟨by rw [HN.out]; rfl, rfl⟩
end Go.Proofs.Ytbhmfbhfofgfaaa
