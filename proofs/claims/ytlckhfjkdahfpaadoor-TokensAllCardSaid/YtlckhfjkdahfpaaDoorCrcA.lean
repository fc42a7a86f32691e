/- The walks of the check sum's functions that only compute: what each returns; memory stays. -/
import Derived.Test.YtlckhfjkdahfpaaDoorRows
import Derived.Test.YtlckhfjkdahfpaaDoorMem
namespace Go.Proofs.YtlckhfjkdahfpaaDoor
open Go.RowKit

/-- the table of sixteen numbers lies where the program's text lays it -/
def Nib (w : World) : Prop := ∀ i, i < 16 → w.cell? ⟨0, i, none⟩ = some (.int .u32 (I32 (P.nib i)))

attribute [local go_sem] bits_not32 bits_xor32 bits_xor32_ones bits_xor32_dvs wrap_I8 bits_and15 nib_low st_up bits_and1 one_eq1 one_ne wide_sh8 shr_pow bt_shr shr_pow8
attribute [local go_sem ↓] shr_I32_4 shr_I32_1 shr_I32_31 shl_I32_1
set_option maxHeartbeats 400000 in
theorem update_any (s : BitVec 32) (a : Option Addr) (n cap : Nat) (l : List UInt8) (w : World) (hl : l.length = n) (hn : n ≤ 9223372036854775807) (hb : Bytes w a l) (hnib : Nib w) :
    Calls Tryd.prog 76 #[.int .u32 (I32 s), .slice a n cap] w fun e w' => e = .returned (.int .u32 (I32 (P.update s l))) ∧ w = w' := by
  have hlow : ∀ a, ((low a : Nat) : Int) < 16 := fun a => by have := low_lt a; omega
  have hnb : ∀ a, w.cell? ⟨0, low a, none⟩ = some (.int .u32 (I32 (P.nib (low a)))) := fun a => hnib _ (low_lt a)
  go_enter Tryd.func76, Tryd.ntmps76
  go_wp2
  go_loop [5, 12] (fun c i => ∃ k : Nat, k ≤ n ∧ i = .int .i64 k ∧ c = .int .u32 (I32 (P.run (~~~ s) (l.take k)))) (fun _ i => n - (intOf i).toNat)
  case atStart => exact ⟨0, Nat.zero_le _, rfl, rfl⟩
  case round =>
    obtain ⟨k, hk, rfl, rfl⟩ := hrel
    by_cases hlt : k < n
    · obtain ⟨b, off, rfl, hc⟩ := hb.at (by omega)
      have hcell : w.cell? ⟨b, off + k, none⟩ = some (.int .u8 (I8 (l.getD k 0))) := hc k (by omega)
      clear hc
      go_wp2
      go_round
      case rel => exact ⟨k + 1, by omega, by go_num, by rw [take_snoc l k (by omega), P.run_append]; rfl⟩
      case measure => simp [intOf]; omega
    · go_wp2
      go_ret
      exact ⟨by rw [List.take_of_length_le (by omega)]; rfl, rfl⟩

theorem sum_any (a : Option Addr) (n cap : Nat) (l : List UInt8) (w : World) (hl : l.length = n) (hn : n ≤ 9223372036854775807) (hb : Bytes w a l) (hnib : Nib w) :
    Calls Tryd.prog 61 #[.slice a n cap] w fun e w' => e = .returned (.int .u32 (I32 (P.update 0#32 l))) ∧ w = w' := by
  have h0 : Value.int .u32 0 = .int .u32 (I32 0#32) := by rw [show I32 0#32 = 0 by decide +kernel]
  go_enter Tryd.func61, Tryd.ntmps61
  go_wp2_with fail
  rw [h0]
  refine (update_any 0#32 a n cap l w hl hn hb hnib).mono ?_
  rintro e w' ⟨rfl, rfl⟩
  go_wp2
  go_ret
  exact ⟨rfl, rfl⟩

theorem u0 : Value.int .u32 0 = .int .u32 (I32 0#32) := by rw [I32_zero]

theorem turned_any (v : BitVec 32) (w : World) :
    Calls Tryd.prog 81 #[.int .u32 (I32 v)] w fun e w' => e = .returned (.int .u32 (I32 (P.rv v))) ∧ w = w' := by
  go_enter Tryd.func81, Tryd.ntmps81
  go_wp2
  go_loop [0, 3, 4] (fun x o i => ∃ k : Nat, k ≤ 32 ∧ i = .int .i64 k ∧ o = .int .u32 (I32 (P.rv v >>> (32 - k))) ∧ x = .int .u32 (I32 (v >>> k))) (fun _ _ i => 32 - (intOf i).toNat)
  case atStart => exact ⟨0, by omega, rfl, by rw [u0, show P.rv v >>> (32 - 0) = 0#32 from BitVec.ushiftRight_eq_zero (by omega)], by simp⟩
  case round =>
    obtain ⟨k, hk, rfl, rfl, rfl⟩ := hrel
    by_cases hlt : k < 32
    · have hs := P.turn_step v k hlt
      go_wp2
      go_round
      case rel => exact ⟨k + 1, by omega, by go_num, by rw [bits_or32, ← hs, ← bt_shr, one_bt0], by rw [BitVec.shiftRight_add]⟩
      case measure => simp [intOf]; omega
    · have : k = 32 := by omega
      subst this
      go_wp2
      go_ret
      exact ⟨by simp, rfl⟩

/-- the document's sums: the division goes on -/
theorem div_next {r : BitVec 32} {x : UInt8} {k : Nat} {b c : Bool} (h1 : bt (P.divByte k r x) 31 = b) (h2 : P.bitOf x k = c) (h : b ≠ c) : P.divByte k r x <<< 1 ^^^ P.dvs = P.divByte (k + 1) r x := by
  subst h1; subst h2
  show _ = P.divBit (P.divByte k r x) (P.bitOf x k)
  unfold P.divBit
  rw [← bt_def, bne_iff_ne.2 h]; rfl
theorem div_same {r : BitVec 32} {x : UInt8} {k : Nat} {b c : Bool} (h1 : bt (P.divByte k r x) 31 = b) (h2 : P.bitOf x k = c) (h : b = c) : P.divByte k r x <<< 1 = P.divByte (k + 1) r x := by
  subst h1; subst h2
  show _ = P.divBit (P.divByte k r x) (P.bitOf x k)
  unfold P.divBit
  rw [← bt_def, h]; simp
theorem divRun_next (r : BitVec 32) (l : List UInt8) (k : Nat) (h : k < l.length) : P.divByte 8 (P.divRun r (l.take k)) (l.getD k 0) = P.divRun r (l.take (k + 1)) := by
  unfold P.divRun
  rw [take_snoc l k h, List.foldl_append, List.getD_eq_getElem?_getD, List.getElem?_eq_getElem h]; rfl
theorem refupdate_any (s : BitVec 32) (a : Option Addr) (n cap : Nat) (l : List UInt8) (w : World) (hl : l.length = n) (hn : n ≤ 9223372036854775807) (hb : Bytes w a l) :
    Calls Tryd.prog 78 #[.int .u32 (I32 s), .slice a n cap] w fun e w' => e = .returned (.int .u32 (I32 (P.update s l))) ∧ w = w' := by
  go_enter Tryd.func78, Tryd.ntmps78
  go_wp2_with fail
  refine (turned_any _ w).mono ?_
  rintro e w' ⟨rfl, rfl⟩
  go_wp2_with fail
  go_loop [5, 6] (fun r i => ∃ k : Nat, k ≤ n ∧ i = .int .i64 k ∧ r = .int .u32 (I32 (P.divRun (P.rv (~~~ s)) (l.take k)))) (fun _ i => n - (intOf i).toNat)
  case atStart => exact ⟨0, Nat.zero_le _, rfl, rfl⟩
  case round =>
    obtain ⟨k, hk, rfl, rfl⟩ := hrel
    by_cases hlt : k < n
    · obtain ⟨b, off, rfl, hc⟩ := hb.at (by omega)
      have hcell : w.cell? ⟨b, off + k, none⟩ = some (.int .u8 (I8 (l.getD k 0))) := hc k (by omega)
      clear hc
      obtain ⟨x, hx⟩ : ∃ x, x = l.getD k 0 := ⟨_, rfl⟩
      obtain ⟨r, hr⟩ : ∃ r, r = P.divRun (P.rv (~~~ s)) (l.take k) := ⟨_, rfl⟩
      rw [← hx] at hcell
      rw [← hr]
      have hnext : P.divByte 8 r x = P.divRun (P.rv (~~~ s)) (l.take (k + 1)) := by
        rw [hx, hr]; exact divRun_next _ l k (by omega)
      have HN := Lib.hid hnext; clear hnext hx hr
      go_wp2_with fail
      go_loop [5, 7] (fun o i => ∃ j : Nat, j ≤ 8 ∧ i = .int .i64 j ∧ o = .int .u32 (I32 (P.divByte j r x))) (fun _ i => 8 - (intOf i).toNat)
      case atStart => exact ⟨0, Nat.zero_le _, rfl, rfl⟩
      case round =>
        obtain ⟨j, hj, rfl, rfl⟩ := hrel
        by_cases hjt : j < 8
        · go_wp2
          · go_round
            case rel => exact ⟨j + 1, by omega, by go_num, by rw [div_next rfl rfl (bne_iff_ne.1 ‹_›)]⟩
            case measure => simp [intOf]; omega
          · go_round
            case rel => exact ⟨j + 1, by omega, by go_num, by rw [div_same rfl rfl (bne_eq_false_iff_eq.1 ‹_›)]⟩
            case measure => simp [intOf]; omega
        · have : j = 8 := by omega
          subst this
          go_wp2_with fail
          go_round
          case rel => exact ⟨k + 1, by omega, by go_num, by rw [HN.out]⟩
          case measure => simp [intOf]; omega
    · go_wp2_with fail
      refine (turned_any _ w).mono ?_
      rintro e w' ⟨rfl, rfl⟩
      go_wp2
      go_ret
      refine ⟨?_, rfl⟩
      have h := P.ref_update s l
      rw [P.xor_ones, P.xor_ones] at h
      rw [List.take_of_length_le (by omega), h]; rfl

theorem refsum_any (a : Option Addr) (n cap : Nat) (l : List UInt8) (w : World) (hl : l.length = n) (hn : n ≤ 9223372036854775807) (hb : Bytes w a l) :
    Calls Tryd.prog 66 #[.slice a n cap] w fun e w' => e = .returned (.int .u32 (I32 (P.update 0#32 l))) ∧ w = w' := by
  go_enter Tryd.func66, Tryd.ntmps66
  go_wp2_with fail
  rw [u0]
  refine (refupdate_any 0#32 a n cap l w hl hn hb).mono ?_
  rintro e w' ⟨rfl, rfl⟩
  go_wp2
  go_ret
  exact ⟨rfl, rfl⟩
end Go.Proofs.YtlckhfjkdahfpaaDoor
