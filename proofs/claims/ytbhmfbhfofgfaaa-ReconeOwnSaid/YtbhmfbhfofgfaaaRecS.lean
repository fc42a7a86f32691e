/- The walks of the document's labels and nodes of version 2, and of the comparison of nodes. -/
import Derived.Test.YtbhmfbhfofgfaaaRecN
namespace Go.Proofs.Ytbhmfbhfofgfaaa
open Go.RowKit
attribute [local go_sem ↓] Go.wp_at_zero Go.wp_at_succ
set_option maxHeartbeats 1600000 in
theorem LabelsRight_any (a : Option Addr) (c : Nat) (l : List Int) (w : World) (hl : l.length ≤ 140737488351300) (hb : Ints w a l) :
    Calls Try.prog 38 #[.slice a l.length c] w fun e w' => e = .returned (.bool (labFine l)) ∧ Fr [] w w' := by
  have HB := Lib.hid hb
  have H9 := Lib.hid (show decide (l.length ≤ 8) = decide ((l.length : Int) < 9) by
    by_cases h : l.length ≤ 8
    · rw [decide_eq_true h, decide_eq_true (by omega)]
    · rw [decide_eq_false h, decide_eq_false (by omega)])
  clear hb
  go_enter Try.func38, Try.ntmps38
  go_wp2_with fail
  go_loopw [3] (fun i wr => ∃ k : Nat, k ≤ l.length ∧ i = .int .i64 k ∧ chain (-1) l = chain (prev l k) (l.drop k) ∧ -1 ≤ prev l k ∧ prev l k < 200 ∧ Fr [] w wr) (fun i _ => l.length - (intOf i).toNat)
  case atStart => exact ⟨0, by omega, rfl, rfl, by simp [prev], by simp [prev], Fr.refl _ _⟩
  case round =>
    obtain ⟨k, hk, rfl, hch, hp1, hp2, hf⟩ := hrel
    have HC := Lib.hid hch
    have HF := Lib.hid hf
    clear hch hf
    by_cases hlt : k < l.length
    · obtain ⟨b, off, rfl, hc⟩ := (HB.out.keep HF.out).at (by omega)
      have hcell : wr.cell? ⟨b, off + k, none⟩ = some (.int .i64 (l.getD k 0)) := hc k hlt
      have HS := Lib.hid (chain_step l k hlt)
      have HX := Lib.hid (show prev l (k + 1) = l.getD k 0 from rfl)
      have hki : (k : Int) < (l.length : Int) := by omega
      have hk0 : (0 : Int) ≤ (k : Int) := by omega
      cases hx : inB (l.getD k 0) 0 200
      · have hin : ∀ w, Calls Try.prog 29 #[.int .i64 (l.getD k 0), .int .i64 0, .int .i64 200] w fun e w' => e = .returned (.bool false) ∧ w' = w := fun w => by
          have := In_any (l.getD k 0) 0 200 w
          rw [hx] at this
          exact this.mono fun _ _ h => ⟨h.1, h.2.symm⟩
        have HIN := Lib.hid hin
        have HXB := Lib.hid (show inB (l.getD k 0) (prev l k + 1) 200 = false from inB_false fun h => by
          have := inB_iff (n := l.getD k 0) (low := 0) (most := 200)
          rw [hx] at this
          exact absurd (this.2 ⟨by omega, h.2⟩) (by simp))
        clear hx hin hc
        generalize l.getD k 0 = x at hcell HIN HXB HS HX
        go_wp2_with fail
        go_quiet ((go_at_call 29; exact Calls.quiet_of_same (HIN.out _)))
        go_wp2
        go_ret
        exact ⟨ret_bool (by unfold labFine; rw [HC.out, HS.out, HXB.out]; rfl), HF.out.drewN nq⟩
      · have hin : ∀ w, Calls Try.prog 29 #[.int .i64 (l.getD k 0), .int .i64 0, .int .i64 200] w fun e w' => e = .returned (.bool true) ∧ w' = w := fun w => by
          have := In_any (l.getD k 0) 0 200 w
          rw [hx] at this
          exact this.mono fun _ _ h => ⟨h.1, h.2.symm⟩
        have HIN := Lib.hid hin
        have hxb := inB_iff.1 hx
        obtain ⟨xb1, xb2⟩ := hxb
        clear hx hin
        by_cases hz : k = 0
        · subst hz
          rw [Nat.add_zero] at hcell
          have HXB := Lib.hid (show inB (l.getD 0 0) (prev l 0 + 1) 200 = true from inB_true (by simp [prev]; simpa using xb1) xb2)
          clear hc
          generalize l.getD 0 0 = x at hcell HIN HXB HS HX xb1 xb2
          go_wp2_with fail
          go_quiet ((go_at_call 29; exact Calls.quiet_of_same (HIN.out _)))
          go_wp2
          go_roundw
          case rel => exact ⟨1, by omega, by go_num, by rw [HC.out, HS.out, HXB.out]; rfl, by rw [HX.out]; omega, by rw [HX.out]; omega, HF.out.drewN nq⟩
          case measure => simp [intOf] <;> omega
        · obtain ⟨m, rfl⟩ : ∃ m, k = m + 1 := ⟨k - 1, by omega⟩
          have hcm : wr.cell? ⟨b, off + m, none⟩ = some (.int .i64 (prev l (m + 1))) := hc m (by omega)
          clear hc
          generalize l.getD (m + 1) 0 = x at hcell HIN HS HX xb1 xb2
          generalize prev l (m + 1) = y at hcm HS HC hp1 hp2
          have hpos : (0 : Int) < (m : Int) + 1 := by omega
          have hm1 : (m : Int) + 1 - 1 = (m : Int) := by omega
          have hmw : IntKind.i64.wrap ((m : Int) + 1 - 1) = (m : Int) := by rw [hm1]; exact IntWalk.i64_in _ (by omega)
          have hm0 : (0 : Int) ≤ (m : Int) := by omega
          have hml : (m : Int) < (l.length : Int) := by omega
          have hml1 : (m : Int) + 1 < (l.length : Int) := by omega
          have HM1 := Lib.hid hm1
          clear hm1
          by_cases hle : x ≤ y
          · have HXB := Lib.hid (show inB x (y + 1) 200 = false from inB_false fun h => by omega)
            go_wp2_with fail
            go_quiet ((go_at_call 29; exact Calls.quiet_of_same (HIN.out _)))
            go_wp2
            go_ret
            exact ⟨ret_bool (by unfold labFine; rw [HC.out, HS.out, HXB.out]; rfl), HF.out.drewN nq⟩
          · have HXB := Lib.hid (show inB x (y + 1) 200 = true from inB_true (by omega) xb2)
            go_wp2_with fail
            go_quiet ((go_at_call 29; exact Calls.quiet_of_same (HIN.out _)))
            go_wp2
            go_roundw
            case rel => exact ⟨m + 1 + 1, by omega, by go_num, by rw [HC.out, HS.out, HXB.out]; rfl, by rw [HX.out]; omega, by rw [HX.out]; omega, HF.out.drewN nq⟩
            case measure => simp [intOf] <;> omega
    · have HE := Lib.hid (chain_end (prev l k) l k (by omega))
      go_wp2
      go_ret
      exact ⟨ret_bool (by unfold labFine; rw [HC.out, HE.out, H9.out]; rfl), HF.out⟩
set_option maxHeartbeats 800000 in
theorem SameInts_eq (a b : Option Addr) (c d : Nat) (l : List Int) (w : World) (hl : l.length ≤ 140737488351300) (ha : Ints w a l) (hb : Ints w b l) :
    Calls Try.prog 40 #[.slice a l.length c, .slice b l.length d] w fun e w' => e = .returned (.bool true) ∧ Fr [] w w' := by
  have HA := Lib.hid ha
  have HB := Lib.hid hb
  clear ha hb
  go_enter Try.func40, Try.ntmps40
  go_wp2_with fail
  go_loopw [5] (fun i wr => ∃ k : Nat, k ≤ l.length ∧ i = .int .i64 k ∧ Fr [] w wr) (fun i _ => l.length - (intOf i).toNat)
  case atStart => exact ⟨0, by omega, rfl, Fr.refl _ _⟩
  case round =>
    obtain ⟨k, hk, rfl, hf⟩ := hrel
    have HF := Lib.hid hf
    clear hf
    by_cases hlt : k < l.length
    · obtain ⟨b1, o1, rfl, h1⟩ := (HA.out.keep HF.out).at (by omega)
      obtain ⟨b2, o2, rfl, h2⟩ := (HB.out.keep HF.out).at (by omega)
      have d1 : wr.cell? ⟨b1, o1 + k, none⟩ = some (.int .i64 (l.getD k 0)) := h1 k hlt
      have d2 : wr.cell? ⟨b2, o2 + k, none⟩ = some (.int .i64 (l.getD k 0)) := h2 k hlt
      clear h1 h2
      generalize l.getD k 0 = x at d1 d2
      go_wp2_with fail
      go_quiet (fail)
      go_wp2
      go_roundw
      case rel => exact ⟨k + 1, by omega, by go_num, HF.out.drewN nq⟩
      case measure => simp [intOf] <;> omega
    · go_wp2
      go_ret
      exact ⟨rfl, HF.out⟩
end Go.Proofs.Ytbhmfbhfofgfaaa
