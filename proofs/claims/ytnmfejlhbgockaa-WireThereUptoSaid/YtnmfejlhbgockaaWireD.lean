/- The walks of the document's Get and Set, and of the laws WireGets and WireSets. -/
import Derived.Test.YtnmfejlhbgockaaWireC
namespace Go.Proofs.Ytnmfejlhbgockaa
open Go.RowKit
attribute [local go_sem] mulU256 wrapU_nat wrapU_I8 wrapU addU mulU remU divU byteU shrU I8_ne I8_eq U_eq U_ne

theorem refget_no (a : Option Addr) (c n : Nat) (p z : Int) (w : World) (h : isWd z = false ∨ p < 0) :
    Calls Try.prog 12 #[.slice a n c, .int .i64 p, .int .i64 z] w fun e w' => e = .returned (.tuple #[.int .u64 (U 0), .int .i64 2]) ∧ w = w' := by
  by_cases hz : isWd z = false
  · go_enter Try.func12, Try.ntmps12
    go_wp2_with fail
    refine (width_any z w).mono ?_
    rintro e w' ⟨rfl, rfl⟩
    go_wp2
    go_ret2
    exact ⟨by rw [U_zero]; rfl, rfl⟩
  · have hz : isWd z = true := by simpa using hz
    have hp : p < 0 := by simpa [hz] using h
    clear h
    go_enter Try.func12, Try.ntmps12
    go_wp2_with fail
    refine (width_any z w).mono ?_
    rintro e w' ⟨rfl, rfl⟩
    go_wp2
    go_ret2
    exact ⟨by rw [U_zero]; rfl, rfl⟩
theorem refget_short (a : Option Addr) (c n wd : Nat) (p : Int) (w : World) (hn : n ≤ 140737488351300) (hw : Wd wd) (hp : 0 ≤ p) (hp2 : p ≤ 9223372036854775807) (h : (n : Int) < p + wd) :
    Calls Try.prog 12 #[.slice a n c, .int .i64 p, .int .i64 wd] w fun e w' => e = .returned (.tuple #[.int .u64 (U 0), .int .i64 10]) ∧ w = w' := by
  have hz := isWd_nat wd hw
  have hle := hw.le
  have h0 : ¬ p < 0 := by omega
  go_enter Try.func12, Try.ntmps12
  go_wp2_with fail
  refine (width_any wd w).mono ?_
  rintro e w' ⟨rfl, rfl⟩
  go_wp2
  go_ret2
  exact ⟨by rw [U_zero]; rfl, rfl⟩
theorem refget_yes (a : Option Addr) (c : Nat) (l : List UInt8) (wd p : Nat) (w : World) (hl : l.length ≤ 140737488351300) (hc : l.length ≤ c) (hb : Bytes w a l) (hw : Wd wd) (h : p + wd ≤ l.length) :
    Calls Try.prog 12 #[.slice a l.length c, .int .i64 p, .int .i64 wd] w fun e w' => e = .returned (.tuple #[.int .u64 (U (be ((l.drop p).take wd))), .int .i64 0]) ∧ w = w' := by
  have hz := isWd_nat wd hw
  have hle := hw.le
  have h0 : ¬ (p : Int) < 0 := by omega
  obtain ⟨b, off, rfl, _⟩ := hb.at (by omega)
  have hlen : ((l.drop p).take wd).length = wd := by rw [List.length_take, List.length_drop]; omega
  have HL := Lib.hid hlen; clear hlen
  go_enter Try.func12, Try.ntmps12
  go_wp2_with fail
  refine (width_any wd w).mono ?_
  rintro e w' ⟨rfl, rfl⟩
  go_wp2_with fail
  have hnum := val_any (some ⟨b, off + p, none⟩) (c - p) ((l.drop p).take wd) w (by rw [HL.out]; omega) (hb.sub p wd h)
  rw [HL.out] at hnum
  refine hnum.mono ?_
  rintro e w' ⟨rfl, rfl⟩
  go_wp2
  go_ret2
  exact ⟨rfl, rfl⟩

/-- what both Gets answer -/
def getNum (l : List UInt8) (p z : Int) : Nat := if isWd z = true ∧ 0 ≤ p ∧ p + z ≤ l.length then be ((l.drop p.toNat).take z.toNat) else 0
def getErr (l : List UInt8) (p z : Int) : Int := if isWd z = false ∨ p < 0 then 2 else if (l.length : Int) < p + z then 10 else 0
theorem get_cases (l : List UInt8) (p z : Int) : (isWd z = false ∨ p < 0) ∨ (∃ wd : Nat, z = wd ∧ Wd wd ∧ 0 ≤ p ∧ (l.length : Int) < p + wd) ∨ ∃ wd q : Nat, z = wd ∧ p = q ∧ Wd wd ∧ q + wd ≤ l.length := by
  by_cases h1 : isWd z = false ∨ p < 0
  · exact .inl h1
  · have hz : isWd z = true := by cases hz : isWd z <;> simp_all
    have hp : 0 ≤ p := by omega
    obtain ⟨wd, rfl, hw⟩ := isWd_of z hz
    by_cases h2 : (l.length : Int) < p + wd
    · exact .inr (.inl ⟨wd, rfl, hw, hp, h2⟩)
    · exact .inr (.inr ⟨wd, p.toNat, rfl, by omega, hw, by omega⟩)

set_option maxHeartbeats 800000 in
theorem refset_yes (a : Option Addr) (c : Nat) (l : List UInt8) (wd p n : Nat) (w : World) (hl : l.length ≤ 140737488351300) (hc : l.length ≤ c) (hb : Bytes w a l) (hw : Wd wd) (h : p + wd ≤ l.length) (hn : n < 18446744073709551616) :
    Calls Try.prog 14 #[.slice a l.length c, .int .i64 p, .int .i64 wd, .int .u64 (U n)] w fun e w' => ∃ v, e = .returned (.tuple #[v, .int .i64 0]) ∧ Fresh w.heap.size w w' v (put l p (by8 wd n)) := by
  have hle := hw.le
  obtain ⟨b, off, rfl, _⟩ := hb.at (by omega)
  have HL := Lib.hid (show (l.take p).length = p by rw [List.length_take]; omega)
  have HY := Lib.hid (by8_length wd n)
  go_enter Try.func14, Try.ntmps14
  go_wp2_with fail
  refine (refget_yes _ c l wd p w hl hc hb hw h).mono ?_
  rintro e w' ⟨rfl, rfl⟩
  go_wp2_with fail
  have hcp := copy_any (some ⟨b, off, none⟩) c (l.take p) w (by rw [HL.out]; omega) (by have := hb.sub 0 p (by omega); simpa using this)
  rw [HL.out] at hcp
  refine hcp.mono ?_
  rintro e w1 ⟨v, rfl, hfr⟩
  have HG := Lib.hid hfr.grow; clear hfr hcp
  go_wp2_with fail
  refine (refnum_yes wd n w1 hw hn).mono ?_
  rintro e w2 ⟨x, rfl, hx⟩
  obtain ⟨g2, cap2, rfl, hg2, hlt2, hb2, hf2⟩ := hx.bytes
  rw [HY.out]
  have HG2 := Lib.hid (HG.out.next hf2 g2 hg2 hlt2)
  clear hx hg2 hlt2
  go_wp2_with fail
  go_loopw [12, 14] (fun v i wr => ∃ k : Nat, k ≤ wd ∧ i = .int .i64 k ∧ Grow [g2] w wr v (l.take p ++ (by8 wd n).take k) ∧ Bytes wr (some ⟨g2, 0, none⟩) (by8 wd n)) (fun _ i _ => wd - (intOf i).toNat)
  case atStart => exact ⟨0, by omega, rfl, by simpa using HG2.out, hb2⟩
  case round =>
    obtain ⟨k, hk, rfl, hgr, hbx⟩ := hrel
    have HR := Lib.hid hgr; clear hgr
    by_cases hlt : k < wd
    · have hcell : wr.cell? ⟨g2, k, none⟩ = some (.int .u8 (I8 ((by8 wd n).getD k 0))) := by
        obtain ⟨_, _, e1, hc1⟩ := hbx.at (by rw [HY.out]; omega)
        cases e1
        have := hc1 k (by rw [HY.out]; omega)
        rwa [Nat.zero_add] at this
      obtain ⟨x, hx⟩ : ∃ x, x = (by8 wd n).getD k 0 := ⟨_, rfl⟩
      rw [← hx] at hcell
      have HX := Lib.hid hx; clear hx
      have HT := Lib.hid (show (l.take p ++ (by8 wd n).take k).length = p + k by rw [List.length_append, HL.out, List.length_take, HY.out]; omega)
      go_wp2_with (at_builtin; refine wpList_apB _ rfl _ _ 22 rfl w.heap.size 5 Try.underlying22 info8 u12 (l.take p ++ (by8 wd n).take k) rfl (HR.out.alloc _).own (some ⟨wr.heap.size, 0, none⟩) 1 1 [x] rfl rfl (Bytes.one x rfl) (fun h => by cases h) (by rw [HT.out]; omega) (HR.out.alloc _).size ?_; intro v' w1 happ; have HA := Lib.hid happ; clear happ)
      go_roundw
      case rel =>
        refine ⟨k + 1, by omega, by go_num, ?_, (HR.out.alloc _).keep HA.out (by simp) (hbx.keep ((Fr.refl _ _).alloc _))⟩
        have e : l.take p ++ (by8 wd n).take (k + 1) = l.take p ++ (by8 wd n).take k ++ [x] := by
          rw [take_snoc _ k (by rw [HY.out]; omega), HX.out, ← List.append_assoc]; simp [List.getD, HY.out, hlt]
        rw [e]
        exact (HR.out.alloc _).app HA.out
      case measure => simp [intOf] <;> omega
    · have e : (by8 wd n).take k = by8 wd n := List.take_of_length_le (by rw [by8_length]; omega)
      have HR2 := Lib.hid (show Grow [g2] w wr u12 (l.take p ++ by8 wd n) by have := HR.out; rwa [e] at this)
      clear HR hbx e
      obtain ⟨w3, hw3⟩ : ∃ w3, w3 = wr := ⟨_, rfl⟩
      rw [← hw3] at HR2 ⊢
      clear hw3
      go_wp2_with fail
      go_loopw [12, 15] (fun v i wr => ∃ k : Nat, p + wd + k ≤ l.length ∧ i = .int .i64 ((p : Int) + wd + k) ∧ Grow [g2] w wr v (l.take p ++ by8 wd n ++ (l.drop (p + wd)).take k)) (fun _ i _ => l.length - (intOf i).toNat)
      case atStart => exact ⟨0, by omega, by simp, by simpa using HR2.out⟩
      case round =>
        obtain ⟨k, hk, rfl, hgr⟩ := hrel
        have HR := Lib.hid hgr; clear hgr
        obtain ⟨j, hj⟩ : ∃ j : Nat, j = p + wd + k := ⟨_, rfl⟩
        have e : (p : Int) + wd + k = (j : Int) := by omega
        rw [e]
        clear e
        have HJ := Lib.hid hj; clear hj
        by_cases hlt : j < l.length
        · have hcell : wr.cell? ⟨b, off + j, none⟩ = some (.int .u8 (I8 (l.getD j 0))) := by
            obtain ⟨_, _, e1, hc1⟩ := (hb.keep HR.out.fr).at (by omega)
            cases e1
            exact hc1 j hlt
          obtain ⟨x, hx⟩ : ∃ x, x = l.getD j 0 := ⟨_, rfl⟩
          rw [← hx] at hcell
          have HX := Lib.hid hx; clear hx
          have HT := Lib.hid (show (l.take p ++ by8 wd n ++ (l.drop (p + wd)).take k).length ≤ l.length by rw [List.length_append, List.length_append, HL.out, List.length_take, HY.out, List.length_drop]; omega)
          go_wp2_with (at_builtin; refine wpList_apB _ rfl _ _ 22 rfl w.heap.size 5 Try.underlying22 info8 u12 (l.take p ++ by8 wd n ++ (l.drop (p + wd)).take k) rfl (HR.out.alloc _).own (some ⟨wr.heap.size, 0, none⟩) 1 1 [x] rfl rfl (Bytes.one x rfl) (fun h => by cases h) (by have := HT.out; omega) (HR.out.alloc _).size ?_; intro v' w1 happ; have HA := Lib.hid happ; clear happ)
          go_roundw
          case rel =>
            have hj := HJ.out
            refine ⟨k + 1, by omega, congrArg (Value.int .i64) (by omega), ?_⟩
            have e : l.take p ++ by8 wd n ++ (l.drop (p + wd)).take (k + 1) = l.take p ++ by8 wd n ++ (l.drop (p + wd)).take k ++ [x] := by
              rw [take_snoc _ k (by rw [List.length_drop]; omega), HX.out, ← List.append_assoc]
              simp [List.getD, hj, show p + wd + k < l.length by omega]
            rw [e]
            exact (HR.out.alloc _).app HA.out
          case measure => simp [intOf] <;> omega
        · have hj := HJ.out
          have e : l.take p ++ by8 wd n ++ (l.drop (p + wd)).take k = put l p (by8 wd n) := by
            have e1 : (l.drop (p + wd)).take k = l.drop (p + wd) := List.take_of_length_le (by rw [List.length_drop]; omega)
            unfold put
            rw [HY.out, e1, List.append_assoc]
          have HR3 := Lib.hid (show Grow [g2] w wr u12 (put l p (by8 wd n)) by have := HR.out; rwa [e] at this)
          clear HR e hj
          go_wp2
          go_ret2
          exact ⟨_, rfl, HR3.out.fresh⟩
end Go.Proofs.Ytnmfejlhbgockaa
