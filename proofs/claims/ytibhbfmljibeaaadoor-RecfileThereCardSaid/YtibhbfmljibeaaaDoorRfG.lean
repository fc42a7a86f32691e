/- Record files: is there a byte that isn't nought? -/
import Derived.Test.YtibhbfmljibeaaaDoorRfF
namespace Go.Proofs.YtibhbfmljibeaaaDoor
open Go.RowKit
attribute [local go_sem ↓] Go.wp_at_zero Go.wp_at_succ
theorem Nonz_F (x : UInt8) (w : World) : Calls Tryd.prog 39 #[.int .u8 (I8 x)] w fun e w' => e = .returned (.bool (x != 0)) ∧ w = w' := by
  have h0 : (I8 x != 0) = (x != 0) := by
    have := I8_ne x 0
    rwa [show I8 0 = 0 by decide +kernel] at this
  go_enter Tryd.func39, Tryd.ntmps39
  go_wp2
  go_ret
  exact ⟨rfl, rfl⟩
theorem any_not {l : List UInt8} (h : ∀ j, j < l.length → l.getD j 0 = 0) : l.any (· != 0) = false := by
  rw [List.any_eq_false]
  intro x hx
  obtain ⟨j, hj, rfl⟩ := List.mem_iff_getElem.1 hx
  have := h j hj
  rw [List.getD_eq_getElem?_getD, List.getElem?_eq_getElem hj] at this
  simpa using this
theorem any_yes {l : List UInt8} {k : Nat} (hk : k < l.length) (h : (l.getD k 0 != 0) = true) : l.any (· != 0) = true := by
  rw [List.any_eq_true]
  refine ⟨l[k], List.getElem_mem _, ?_⟩
  rwa [List.getD_eq_getElem?_getD, List.getElem?_eq_getElem hk] at h
set_option maxRecDepth 100000 in
theorem IndexFunc_F (a : Option Addr) (c : Nat) (l : List UInt8) (w : World) (hl : l.length ≤ 140737488351300) (hb : Bytes w a l) :
    Calls Tryd.prog 64 #[.slice a l.length c, .func (.func 39) #[] #[]] w fun e w' => ∃ z : Int, e = .returned (.int .i64 z) ∧ decide (0 ≤ z) = l.any (· != 0) ∧ w = w' := by
  have HB := Lib.hid hb
  clear hb
  go_enter Tryd.func64, Tryd.ntmps64
  go_wp2_with fail
  go_loopw [8] (fun i wr => ∃ k : Nat, k ≤ l.length ∧ i = .int .i64 k ∧ (∀ j, j < k → l.getD j 0 = 0) ∧ w = wr) (fun i _ => l.length - (intOf i).toNat)
  case atStart => exact ⟨0, by omega, rfl, fun j h => absurd h (by omega), rfl⟩
  case round =>
    obtain ⟨k, hk, rfl, hz, rfl⟩ := hrel
    by_cases hlt : k < l.length
    · obtain ⟨b, o, rfl, hcs⟩ := HB.out.at (by omega)
      have hc := hcs k hlt
      have hki : (k : Int) < (l.length : Int) := by omega
      have hki0 : (0 : Int) ≤ (k : Int) := by omega
      have HZ := Lib.hid hz
      obtain ⟨x, hx⟩ : ∃ x, x = l.getD k 0 := ⟨_, rfl⟩
      rw [← hx] at hc
      have HX := Lib.hid hx
      clear hcs hz hx
      unfold B8 at hc
      go_wp2_with fail
      refine (Nonz_F x w).mono ?_
      rintro e w' ⟨rfl, rfl⟩
      cases hz : (x != 0) with
      | true =>
        go_wp2
        go_ret
        refine ⟨(k : Int), rfl, ?_, rfl⟩
        rw [any_yes hlt (by rw [← HX.out]; exact hz)]
        exact decide_eq_true (by omega)
      | false =>
        go_wp2
        go_roundw
        case rel =>
          refine ⟨k + 1, by omega, by go_num, fun j hj => ?_, by simp⟩
          by_cases h : j < k
          · exact HZ.out j h
          · obtain rfl : j = k := by omega
            rw [← HX.out]
            simpa using hz
        case measure => simp [intOf] <;> omega
    · have HZ := Lib.hid (any_not (l := l) fun j hj => hz j (by omega))
      clear hz
      go_wp2
      go_ret
      refine ⟨-1, rfl, ?_, rfl⟩
      rw [HZ.out]
      rfl
theorem ContainsFunc_F (a : Option Addr) (c : Nat) (l : List UInt8) (w : World) (hl : l.length ≤ 140737488351300) (hb : Bytes w a l) :
    Calls Tryd.prog 38 #[.slice a l.length c, .func (.func 39) #[] #[]] w fun e w' => e = .returned (.bool (l.any (· != 0))) ∧ w = w' := by
  have HI := Lib.hid (IndexFunc_F a c l w hl hb)
  clear hb
  go_enter Tryd.func38, Tryd.ntmps38
  go_wp2_with fail
  refine HI.out.mono ?_
  rintro e w' ⟨z, rfl, hz, rfl⟩
  have HZ := Lib.hid hz
  clear hz
  go_wp2
  go_ret
  exact ⟨ret_bool HZ.out, rfl⟩
end Go.Proofs.YtibhbfmljibeaaaDoor
