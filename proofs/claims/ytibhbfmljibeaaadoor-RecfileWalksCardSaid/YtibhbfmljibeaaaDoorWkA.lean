/- Record files: next, held of RecfileWalks. -/
import Derived.Test.YtibhbfmljibeaaaDoorRfX
import Derived.Test.YtibhbfmljibeaaaDoorRfZ
namespace Go.Proofs.YtibhbfmljibeaaaDoor
open Go.RowKit
attribute [local go_sem ↓] Go.wp_at_zero Go.wp_at_succ
set_option maxRecDepth 100000 in
theorem next9_hit (C : Nat) (cs : List Nat) (w : World) (q : Nat) (s : RFS) (la : Int) (a id : Nat) (h : MF C cs w q s) (hla : la = (a : Int) - 1) (hai : a ≤ id) (hu : ∃ d, s.R[id]? = some (some d)) (hz : ∀ i, a ≤ i → i < id → s.R.getD i none = none) :
    Calls Tryd.prog 31 #[.pointer (some ⟨q, 0, none⟩), .int .i64 la] w fun e w' => e = .returned (.int .i64 id) ∧ w = w' := by
  subst hla
  obtain ⟨v, X, hh, -⟩ := (show MF C cs w q s from h)
  have hlen := hh.len
  have hl65 := h.ok.len
  obtain ⟨d, hd⟩ := hu
  have hidl : id < X.length := by rw [hlen]; exact (List.getElem?_eq_some_iff.1 hd).1
  obtain ⟨x0, x1, x2, x3⟩ := four hh.obj
  obtain ⟨va, vc, rfl, -⟩ := hh.recs.sl
  have HU : Hid (∀ i : Int, Calls Tryd.prog 58 #[.pointer (some ⟨q, 0, none⟩), .int .i64 i] w fun e w' => e = .returned (.bool (usedR s.R i)) ∧ w = w') := Lib.hid fun i => Used9 C cs w q s i h
  have HD := Lib.hid hd
  have HZ := Lib.hid hz
  have hX65 : X.length ≤ 65536 := by omega
  have e1 : IntKind.i64.wrap ((a : Int) - 1 + 1) = (a : Int) := by rw [IntWalk.i64_in _ (by omega)]; omega
  clear h hh hd hz hlen hl65 x0 x1 x2
  go_enter Tryd.func31, Tryd.ntmps31
  go_wp2_with fail
  go_loopw [5] (fun i wr => ∃ k : Nat, a ≤ k ∧ k ≤ id ∧ i = .int .i64 k ∧ w = wr) (fun i _ => id - (intOf i).toNat)
  case atStart => exact ⟨a, Nat.le_refl _, hai, by go_num, rfl⟩
  case round =>
    obtain ⟨k, hk1, hk2, rfl, rfl⟩ := hrel
    have hki : (k : Int) < (X.length : Int) := by omega
    have HU1 := Lib.hid (HU.out k)
    by_cases hlt : k < id
    · have hu : usedR s.R k = false := by rw [usedR_nat, HZ.out k hk1 hlt]; rfl
      rw [hu] at HU1
      clear hu
      go_wp2_with fail
      refine HU1.out.mono ?_
      rintro e w' ⟨rfl, rfl⟩
      go_wp2
      go_roundw
      case rel => exact ⟨k + 1, by omega, by omega, by go_num, by first | rfl | trivial⟩
      case measure => simp [intOf] <;> omega
    · obtain rfl : k = id := by omega
      have hu : usedR s.R k = true := by rw [usedR_nat, List.getD_eq_getElem?_getD, HD.out]; rfl
      rw [hu] at HU1
      clear hu
      go_wp2_with fail
      refine HU1.out.mono ?_
      rintro e w' ⟨rfl, rfl⟩
      go_wp2
      go_ret
      exact ⟨rfl, rfl⟩
set_option maxRecDepth 100000 in
theorem next9_none (C : Nat) (cs : List Nat) (w : World) (q : Nat) (s : RFS) (la : Int) (a : Nat) (h : MF C cs w q s) (hla : la = (a : Int) - 1) (hz : ∀ i, a ≤ i → s.R.getD i none = none) (ha : a ≤ 65536) :
    Calls Tryd.prog 31 #[.pointer (some ⟨q, 0, none⟩), .int .i64 la] w fun e w' => e = .returned (.int .i64 (-1)) ∧ w = w' := by
  subst hla
  obtain ⟨v, X, hh, -⟩ := (show MF C cs w q s from h)
  have hlen := hh.len
  have hl65 := h.ok.len
  obtain ⟨x0, x1, x2, x3⟩ := four hh.obj
  obtain ⟨va, vc, rfl, -⟩ := hh.recs.sl
  have HU : Hid (∀ i : Int, Calls Tryd.prog 58 #[.pointer (some ⟨q, 0, none⟩), .int .i64 i] w fun e w' => e = .returned (.bool (usedR s.R i)) ∧ w = w') := Lib.hid fun i => Used9 C cs w q s i h
  have HZ := Lib.hid hz
  have hX65 : X.length ≤ 65536 := by omega
  have e1 : IntKind.i64.wrap ((a : Int) - 1 + 1) = (a : Int) := by rw [IntWalk.i64_in _ (by omega)]; omega
  clear h hh hz hlen hl65 x0 x1 x2
  go_enter Tryd.func31, Tryd.ntmps31
  go_wp2_with fail
  go_loopw [5] (fun i wr => ∃ k : Nat, a ≤ k ∧ k ≤ 65536 ∧ i = .int .i64 k ∧ w = wr) (fun i _ => 65537 - (intOf i).toNat)
  case atStart => exact ⟨a, Nat.le_refl _, ha, by go_num, rfl⟩
  case round =>
    obtain ⟨k, hk1, hk2, rfl, rfl⟩ := hrel
    have HU1 := Lib.hid (HU.out k)
    by_cases hlt : k < X.length
    · have hki : (k : Int) < (X.length : Int) := by omega
      have hu : usedR s.R k = false := by rw [usedR_nat, HZ.out k hk1]; rfl
      rw [hu] at HU1
      clear hu
      go_wp2_with fail
      refine HU1.out.mono ?_
      rintro e w' ⟨rfl, rfl⟩
      go_wp2
      go_roundw
      case rel => exact ⟨k + 1, by omega, by omega, by go_num, by first | rfl | trivial⟩
      case measure => simp [intOf] <;> omega
    · have hki : ¬ (k : Int) < (X.length : Int) := by omega
      go_wp2
      go_ret
      exact ⟨rfl, rfl⟩
theorem held9 (C : Nat) (cs : List Nat) (w : World) (q : Nat) (s : RFS) (id : Int) (h : MF C cs w q s) :
    Calls Tryd.prog 32 #[.pointer (some ⟨q, 0, none⟩), .int .i64 id] w fun e w' => ∃ v, e = .returned v ∧ Fresh w.heap.size w w' v (getRd s.R id) := by
  have HG := Lib.hid (Get9 C cs w q s id h)
  generalize (if usedR s.R id = true then (0 : Int) else 3) = E at HG
  clear h
  go_enter Tryd.func32, Tryd.ntmps32
  go_wp2_with fail
  refine HG.out.mono ?_
  rintro e w' ⟨v, rfl, hv⟩
  have HV := Lib.hid hv
  clear hv
  go_wp2
  go_ret
  exact ⟨v, rfl, HV.out⟩
end Go.Proofs.YtibhbfmljibeaaaDoor
