/- The walks of wire's leaves and of the document's: widths, numbers, copies. -/
import Derived.Test.YtkgfdcagninphaaDoorU64
import Derived.BigQuiet
import Derived.Lib.SliceRun
import Derived.Test.YtkgfdcagninphaaDoorFresh
namespace Go.Proofs.YtkgfdcagninphaaDoor
open Go.RowKit
attribute [local go_sem] wrapU_nat wrapU_I8 wrapU addU mulU remU divU byteU shrU I8_ne I8_eq
attribute [local go_sem ↓] shlU8
/-- a width -/
def Wd (w : Nat) : Prop := w = 1 ∨ w = 2 ∨ w = 4 ∨ w = 8
theorem Wd.le {w : Nat} (h : Wd w) : 1 ≤ w ∧ w ≤ 8 := by rcases h with h | h | h | h <;> omega
def isWd (z : Int) : Bool := z == 1 || z == 2 || z == 4 || z == 8
theorem isWd_nat (w : Nat) (h : Wd w) : isWd (w : Int) = true := by rcases h with rfl | rfl | rfl | rfl <;> rfl
theorem isWd_of (z : Int) (h : isWd z = true) : ∃ w : Nat, z = (w : Int) ∧ Wd w := by
  simp only [isWd, Bool.or_eq_true, beq_iff_eq] at h
  rcases h with ((h | h) | h) | h
  · exact ⟨1, h, .inl rfl⟩
  · exact ⟨2, h, .inr (.inl rfl)⟩
  · exact ⟨4, h, .inr (.inr (.inl rfl))⟩
  · exact ⟨8, h, .inr (.inr (.inr rfl))⟩
theorem isWd_no (z : Int) (h : isWd z = false) : (z == 1) = false ∧ (z == 2) = false ∧ (z == 4) = false ∧ (z == 8) = false := by
  simp only [isWd, Bool.or_eq_false_iff] at h
  exact ⟨h.1.1.1, h.1.1.2, h.1.2, h.2⟩

theorem isWidth_any (z : Int) (w : World) : Calls Tryd.prog 39 #[.int .i64 z] w fun e w' => e = .returned (.bool (isWd z)) ∧ w = w' := by
  cases hz : isWd z
  · obtain ⟨h1, h2, h4, h8⟩ := isWd_no z hz
    have HZ := Lib.hid hz; clear hz
    go_enter Tryd.func39, Tryd.ntmps39
    go_wp2
    go_ret
    exact ⟨rfl, rfl⟩
  · obtain ⟨v, rfl, hv⟩ := isWd_of z hz
    clear hz
    rcases hv with rfl | rfl | rfl | rfl
    all_goals
      go_enter Tryd.func39, Tryd.ntmps39
      go_wp2
      go_ret
      exact ⟨rfl, rfl⟩
theorem width_any (z : Int) (w : World) : Calls Tryd.prog 42 #[.int .i64 z] w fun e w' => e = .returned (.bool (isWd z)) ∧ w = w' := by
  cases hz : isWd z
  · obtain ⟨h1, h2, h4, h8⟩ := isWd_no z hz
    have HZ := Lib.hid hz; clear hz
    go_enter Tryd.func42, Tryd.ntmps42
    go_wp2
    go_ret
    exact ⟨rfl, rfl⟩
  · obtain ⟨v, rfl, hv⟩ := isWd_of z hz
    clear hz
    rcases hv with rfl | rfl | rfl | rfl
    all_goals
      go_enter Tryd.func42, Tryd.ntmps42
      go_wp2
      go_ret
      exact ⟨rfl, rfl⟩

theorem or_next (l : List UInt8) (x : UInt8) (h : l.length ≤ 7) : bits .or .u64 (U (be l * 256)) (U x.toNat) = U (be (l ++ [x])) := by
  rw [orU, be_snoc]
  have h1 := be_lt l
  have h2 : 256 ^ l.length ≤ 256 ^ 7 := Nat.pow_le_pow_right (by omega) h
  have h3 : (256 : Nat) ^ 7 = 72057594037927936 := by simp
  have hx := x.toNat_lt
  rw [Nat.mod_eq_of_lt (show be l * 256 < 18446744073709551616 by omega), Nat.mod_eq_of_lt (show x.toNat < 18446744073709551616 by omega)]
  have e : be l * 256 = be l <<< 8 := by rw [Nat.shiftLeft_eq]
  rw [e, ← Nat.shiftLeft_add_eq_or_of_lt (by omega : x.toNat < 2 ^ 8)]
theorem number_any (a : Option Addr) (cap : Nat) (l : List UInt8) (w : World) (hl : l.length ≤ 8) (hb : Bytes w a l) :
    Calls Tryd.prog 47 #[.slice a l.length cap] w fun e w' => e = .returned (.int .u64 (U (be l))) ∧ w = w' := by
  go_enter Tryd.func47, Tryd.ntmps47
  go_wp2_with fail
  go_loop [2, 7] (fun n i => ∃ k : Nat, k ≤ l.length ∧ i = .int .i64 k ∧ n = .int .u64 (U (be (l.take k)))) (fun _ i => l.length - (intOf i).toNat)
  case atStart => exact ⟨0, by omega, rfl, by rw [show be (l.take 0) = 0 from rfl, U_zero]⟩
  case round =>
    obtain ⟨k, hk, rfl, rfl⟩ := hrel
    by_cases hlt : k < l.length
    · obtain ⟨b, off, rfl, hc⟩ := hb.at (by omega)
      have hcell : w.cell? ⟨b, off + k, none⟩ = some (.int .u8 (I8 (l.getD k 0))) := hc k hlt
      have hor := or_next (l.take k) l[k] (by simp; omega)
      clear hc
      go_wp2
      go_round
      case rel => exact ⟨k + 1, by omega, by go_num, by rw [take_snoc l k hlt]⟩
      case measure => simp [intOf] <;> omega
    · go_wp2
      go_ret
      exact ⟨by rw [List.take_of_length_le (by omega)]; rfl, rfl⟩
end Go.Proofs.YtkgfdcagninphaaDoor
