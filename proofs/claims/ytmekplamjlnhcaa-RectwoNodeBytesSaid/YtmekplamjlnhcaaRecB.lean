/- The walks of numbers put and read in the records' layers. -/
import Derived.Test.YtmekplamjlnhcaaRecA
namespace Go.Proofs.Ytmekplamjlnhcaa
open Go.RowKit

/-- a number that stands in bytes -/
def nm (l : List UInt8) (q wd : Nat) : Nat := be ((l.drop q).take wd)
theorem nm_def (l : List UInt8) (q wd : Nat) : nm l q wd = be ((l.drop q).take wd) := rfl
theorem nm_le (l : List UInt8) (q wd : Nat) (h : wd ≤ 4) : nm l q wd ≤ 4294967295 := by
  have h1 := be_lt ((l.drop q).take wd)
  have h2 : 256 ^ ((l.drop q).take wd).length ≤ 256 ^ 4 := Nat.pow_le_pow_right (by omega) (by rw [List.length_take]; omega)
  have h3 : (256 : Nat) ^ 4 = 4294967296 := by simp
  unfold nm
  omega
theorem nm_le1 (l : List UInt8) (q : Nat) : nm l q 1 ≤ 255 := by
  have h1 := be_lt ((l.drop q).take 1)
  have h2 : 256 ^ ((l.drop q).take 1).length ≤ 256 ^ 1 := Nat.pow_le_pow_right (by omega) (by rw [List.length_take]; omega)
  unfold nm
  omega
attribute [irreducible] nm
theorem by8_nm (l : List UInt8) (q wd : Nat) (h : q + wd ≤ l.length) : by8 wd (nm l q wd) = (l.drop q).take wd := by
  have := by8_be ((l.drop q).take wd)
  rwa [show ((l.drop q).take wd).length = wd by rw [List.length_take, List.length_drop]; omega, ← nm_def] at this
theorem nm_at (a b r : List UInt8) (n wd : Nat) (hb : b = by8 wd n) (h : n < 256 ^ wd) : nm (a ++ (b ++ r)) a.length wd = n := by
  subst hb
  rw [nm_def, List.drop_left, List.take_append_of_le_length (by rw [by8_length]; omega), List.take_of_length_le (by rw [by8_length]; omega), be_by8, Nat.mod_eq_of_lt h]
theorem wrapU_int (z : Int) (h : 0 ≤ z) (h2 : z < 18446744073709551616) : IntKind.u64.wrap z = z := by
  rw [wrap64u]; omega
theorem U_int' (z : Int) (h : 0 ≤ z) (h2 : z < 18446744073709551616) : U z.toNat = z := by
  rw [U_lt _ (by omega)]; omega

theorem Num_int (B p : Nat) (v : Value) (l : List UInt8) (wd : Nat) (z : Int) (w : World) (ho : w.heap[p]? = some (.cells #[v] 94)) (hown : w.ownsRow B 5 1 v l.length (l.map B8)) (hne : v.ownBlock ≠ some p) (hB : B ≤ w.heap.size)
    (hw : Wd wd) (h0 : 0 ≤ z) (h1 : z < 18446744073709551616) (hroom : l.length ≤ 140737488351300) :
    Calls Try.prog 32 #[.pointer (some ⟨p, 0, none⟩), .int .i64 wd, .int .u64 z] w fun e w' => e = .returned (.tuple #[]) ∧ ∃ v', Puts B w w' p v v' (l ++ by8 wd z.toNat) := by
  have := Num_yes B p v l wd z.toNat w ho hown hne hB hw (by omega) (by omega)
  rwa [U_int' z h0 h1] at this
theorem refnum_int (wd : Nat) (z : Int) (w : World) (hw : Wd wd) (h0 : 0 ≤ z) (h1 : z < 18446744073709551616) :
    Calls Try.prog 49 #[.int .i64 wd, .int .u64 z] w fun e w' => ∃ v, e = .returned v ∧ Fresh w.heap.size w w' v (by8 wd z.toNat) := by
  have := refnum_yes wd z.toNat w hw (by omega)
  rwa [U_int' z h0 h1] at this
/-- the bytes of pointers -/
def ptrs (l : List Int) : List UInt8 := l.flatMap fun n => by8 4 (n + 1).toNat
theorem ptrs_length (l : List Int) : (ptrs l).length = 4 * l.length := by
  induction l with
  | nil => rfl
  | cons x l ih =>
    unfold ptrs at ih ⊢
    rw [List.flatMap_cons, List.length_append, ih, by8_length, List.length_cons]; omega
theorem ptrs_snoc (l : List Int) (x : Int) : ptrs (l ++ [x]) = ptrs l ++ by8 4 (x + 1).toNat := by
  unfold ptrs; rw [List.flatMap_append]; simp
theorem put_ptrs (B p : Nat) (v : Value) (l : List UInt8) (a : Option Addr) (c : Nat) (L : List Int) (w : World) (ho : w.heap[p]? = some (.cells #[v] 94)) (hown : w.ownsRow B 5 1 v l.length (l.map B8)) (hne : v.ownBlock ≠ some p) (hB : B ≤ w.heap.size)
    (hL : L.length ≤ 1000) (hl : l.length ≤ 100000) (hr : ∀ n ∈ L, -1 ≤ n ∧ n ≤ 4294967294) (hi : Ints w a L) (hoff : L = [] ∨ ∀ ad, a = some ad → ad.block ≠ p ∧ v.ownBlock ≠ some ad.block) :
    Calls Try.prog 33 #[.pointer (some ⟨p, 0, none⟩), .slice a L.length c] w fun e w' => e = .returned (.tuple #[]) ∧ ∃ v', Puts B w w' p v v' (l ++ ptrs L) := by
  have HI := Lib.hid hi
  have HO := Lib.hid ho
  have HW := Lib.hid hown
  have HR := Lib.hid hr
  clear hi ho hown hr
  go_enter Try.func33, Try.ntmps33
  go_wp2_with fail
  go_loopw [8] (fun i wr => ∃ (k : Nat) (u : Value), k ≤ L.length ∧ i = .int .i64 k ∧ Puts B w wr p v u (l ++ ptrs (L.take k))) (fun i _ => L.length - (intOf i).toNat)
  case atStart => exact ⟨0, v, by omega, rfl, HO.out, by simpa [ptrs] using HW.out, Fr.refl _ _, .inl rfl⟩
  case round =>
    obtain ⟨k, u, hk, rfl, hpu⟩ := hrel
    have HPU := Lib.hid hpu; clear hpu
    have HLE := Lib.hid (show (l ++ ptrs (L.take k)).length ≤ 104000 by rw [List.length_append, ptrs_length, List.length_take]; omega)
    by_cases hlt : k < L.length
    · obtain ⟨b, off, rfl, hc⟩ := HI.out.at (by omega)
      have hof := hoff.resolve_left (by rintro rfl; simp at hlt) _ rfl
      have hcell : wr.cell? ⟨b, off + k, none⟩ = some (.int .i64 (L.getD k 0)) := HPU.out.fr.cell (hc k hlt) (by simp [hof.1, hof.2])
      have HK := Lib.hid (show L.getD k 0 = L[k] by simp [List.getD, hlt])
      have hbd : -1 ≤ L.getD k 0 ∧ L.getD k 0 ≤ 4294967294 := by rw [HK.out]; exact HR.out _ (List.getElem_mem hlt)
      clear hc
      generalize L.getD k 0 = x at hcell HK hbd
      obtain ⟨h1, h2⟩ := hbd
      have hwr : IntKind.u64.wrap (x + 1) = x + 1 := wrapU_int _ (by omega) (by omega)
      have hup : u.ownBlock ≠ some p := by
        rcases HPU.out.blk with hb | ⟨g, hb, hg⟩
        · rw [hb]; exact hne
        · rw [hb]; intro e
          have := Option.some.inj e
          have := (Array.getElem?_eq_some_iff.1 HO.out).1
          omega
      go_wp2_with fail
      refine (Num_int B p u _ 4 (x + 1) wr HPU.out.obj HPU.out.own hup (by have := HPU.out.fr.size; omega) (by unfold Wd; omega) (by omega) (by omega) (by have := HLE.out; omega)).mono ?_
      rintro e w2 ⟨rfl, u2, hpu2⟩
      have HP2 := Lib.hid hpu2; clear hpu2 hwr
      go_wp2_with fail
      go_roundw
      case rel =>
        refine ⟨k + 1, u2, by omega, by go_num, HP2.out.obj, ?_, ?_, ?_⟩
        · have := HP2.out.own
          rw [take_snoc L k hlt, ptrs_snoc, ← List.append_assoc, ← HK.out]
          exact this
        · refine HPU.out.fr.next HP2.out.fr fun i hi hlt => ?_
          rcases List.mem_cons.1 hi with rfl | hi
          · exact List.mem_cons_self
          · rcases HPU.out.blk with hb | ⟨g, hb, hg⟩
            · rw [hb] at hi; exact List.mem_cons_of_mem _ hi
            · rw [hb] at hi; simp at hi; omega
        · rcases HP2.out.blk with hb | ⟨g, hb, hg⟩
          · rw [hb]; exact HPU.out.blk
          · exact .inr ⟨g, hb, by have := HPU.out.fr.size; omega⟩
      case measure => simp [intOf] <;> omega
    · have HE := Lib.hid (show L.take k = L from List.take_of_length_le (by omega))
      go_wp2
      go_end0
      have := HPU.out
      rw [HE.out] at this
      exact ⟨rfl, u, this⟩

theorem RdNum_at (l : List UInt8) (p g q wd : Nat) (w : World) (h : RdSt w l p g q 0) (hl : l.length ≤ 140737488351300) (hb : Bytes w (some ⟨g, 0, none⟩) l) (hgp : g ≠ p) (hw : Wd wd) (hwd : wd ≤ 4) (hq : q + wd ≤ l.length) :
    Calls Try.prog 42 #[.pointer (some ⟨p, 0, none⟩), .int .i64 wd] w fun x w' => x = .returned (.int .u64 (nm l q wd)) ∧ RdSt w' l p g (q + wd) 0 ∧ Fr [p] w w' := by
  have H := RdNum_any l p g q 0 wd w h hl hb hgp
  have hz := isWd_nat wd hw
  obtain ⟨e1, e2, e3⟩ := r_yes (l := l) (q := q) (k := wd) (by omega)
  have en : rNum l q 0 wd = nm l q wd := by unfold rNum; rw [hz, e1, nm_def]
  rw [en, U_lt _ (by have := nm_le l q wd hwd; omega)] at H
  rw [hz, e2, e3] at H
  exact H
theorem RdRaw_at (l : List UInt8) (p g q n : Nat) (w : World) (h : RdSt w l p g q 0) (hl : l.length ≤ 140737488351300) (hb : Bytes w (some ⟨g, 0, none⟩) l) (hgp : g ≠ p) (hq : q + n ≤ l.length) :
    Calls Try.prog 44 #[.pointer (some ⟨p, 0, none⟩), .int .i64 n] w fun x w' => ∃ v, x = .returned v ∧ w'.ownsRow w.heap.size 5 1 v ((l.drop q).take n).length (((l.drop q).take n).map B8) ∧ RdSt w' l p g (q + n) 0 ∧ Fr [p] w w' := by
  have H := RdRaw_any l p g q 0 n w h hl hb hgp
  obtain ⟨e1, e2, e3⟩ := r_yes (l := l) (q := q) (k := n) (by omega)
  rw [e1, e2, e3] at H
  exact H
/-- what 'get' lays into a struct's cells -/
def fills (l : List UInt8) (q : Nat) (cs : List Value) (os : List Nat) : Nat → List Value
  | 0 => cs
  | k + 1 => (fills l q cs os k).set (os.getD k 0) (.int .i64 ((nm l (q + 4 * k) 4 : Int) - 1))
theorem fills_length (l : List UInt8) (q : Nat) (cs : List Value) (os : List Nat) (k : Nat) : (fills l q cs os k).length = cs.length := by
  induction k with
  | zero => rfl
  | succ k ih => rw [fills, List.length_set, ih]
theorem get_ptrs (p g q b s c T : Nat) (l : List UInt8) (cs : List Value) (os : List Nat) (w : World) (h : RdSt w l p g q 0) (hl : l.length ≤ 1000) (hb : Bytes w (some ⟨g, 0, none⟩) l) (hgp : g ≠ p) (hq : q + 4 * os.length ≤ l.length)
    (ho : w.heap[b]? = some (.cells cs.toArray T)) (hos : ∀ o ∈ os, o < cs.length) (hs : ∀ k, k < os.length → w.cell? ⟨s, k, none⟩ = some (.pointer (some ⟨b, os.getD k 0, none⟩))) (hbp : b ≠ p) (hbg : b ≠ g) (hsp : s ≠ p) (hsb : s ≠ b) :
    Calls Try.prog 43 #[.pointer (some ⟨p, 0, none⟩), .slice (some ⟨s, 0, none⟩) os.length c] w fun e w' => e = .returned (.tuple #[]) ∧ RdSt w' l p g (q + 4 * os.length) 0 ∧ w'.heap[b]? = some (.cells (fills l q cs os os.length).toArray T) ∧ Fr [p, b] w w' := by
  have HS := Lib.hid hs
  have HO := Lib.hid ho
  have HOS := Lib.hid hos
  have HB := Lib.hid hb
  have HST := Lib.hid h
  clear hs ho hos hb h
  go_enter Try.func43, Try.ntmps43
  go_wp2_with fail
  go_loopw [8] (fun i wr => ∃ k : Nat, k ≤ os.length ∧ i = .int .i64 k ∧ RdSt wr l p g (q + 4 * k) 0 ∧ wr.heap[b]? = some (.cells (fills l q cs os k).toArray T) ∧ Fr [p, b] w wr) (fun i _ => os.length - (intOf i).toNat)
  case atStart => exact ⟨0, by omega, rfl, HST.out, HO.out, Fr.refl _ _⟩
  case round =>
    obtain ⟨k, hk, rfl, hst, hob, hf⟩ := hrel
    have HR := Lib.hid hst
    have HP := Lib.hid hob
    have HF := Lib.hid hf
    clear hst hob hf
    by_cases hlt : k < os.length
    · have hcell := HF.out.cell (HS.out k hlt) (by simp [hsp, hsb])
      have HK := Lib.hid (show os.getD k 0 < cs.length by rw [show os.getD k 0 = os[k] by simp [List.getD, hlt]]; exact HOS.out _ (List.getElem_mem hlt))
      have HX := Lib.hid (show fills l q cs os (k + 1) = (fills l q cs os k).set (os.getD k 0) (.int .i64 ((nm l (q + 4 * k) 4 : Int) - 1)) from rfl)
      have hbx := HB.out.fr HF.out (.inr fun ad e => by cases e; simp [hgp, Ne.symm hbg])
      generalize os.getD k 0 = o at hcell HK HX
      have hnl := nm_le l (q + 4 * k) 4 (by omega)
      have hwi : IntKind.i64.wrap (nm l (q + 4 * k) 4 : Int) = (nm l (q + 4 * k) 4 : Int) := by
        rw [← U_lt _ (show nm l (q + 4 * k) 4 < 18446744073709551616 by omega), U_int _ (by omega), U_lt _ (by omega)]
      go_wp2_with fail
      refine (RdNum_at l p g (q + 4 * k) 4 wr HR.out (by omega) hbx hgp (by unfold Wd; omega) (by omega) (by omega)).mono ?_
      rintro e w2 ⟨rfl, hst2, hf2⟩
      have hob2 := hf2.obj HP.out (by simp [hbp])
      have hc2 : ∃ y, w2.cell? ⟨b, o, none⟩ = some y := by
        have e := cell_of_row w2 b o _ T _ hob2
        rw [List.getElem?_toArray, List.getElem?_eq_getElem (by rw [fills_length]; exact HK.out)] at e
        exact ⟨_, e⟩
      obtain ⟨y, hc2⟩ := hc2
      have hz2 := frozen_of_row w2 b o _ T hob2
      have HP2 := Lib.hid hob2
      have HR2 := Lib.hid hst2
      have HF2 := Lib.hid hf2
      generalize nm l (q + 4 * k) 4 = n at hnl hwi HX
      clear hob2 hst2 hf2 hbx hcell
      go_wp2_with fail
      go_roundw
      case rel =>
        refine ⟨k + 1, by omega, by go_num, ?_, ?_, ?_⟩
        · exact HR2.out.fr ((Fr.refl [b] w2).setCell (by simp) _) (by simp [Ne.symm hbp])
        · rw [heap_setCell_same w2 b o _ _ _ HP2.out, HX.out]
          simp
        · exact (HF.out.next HF2.out (by simp)).setCell (by simp) _
      case measure => simp [intOf] <;> omega
    · have HE := Lib.hid (show k = os.length by omega)
      go_wp2
      go_end0
      have h1 := HR.out
      have h2 := HP.out
      rw [HE.out] at h1 h2
      exact ⟨rfl, h1, h2, HF.out⟩
end Go.Proofs.Ytmekplamjlnhcaa
