/- The walks of wire.Get and wire.Set and of the document's. -/
import Derived.Test.YtapemanjpfjjpaaDoorWireB
namespace Go.Proofs.YtapemanjpfjjpaaDoor
open Go.RowKit
attribute [local go_sem] mulU256 wrapU_nat wrapU_I8 wrapU addU mulU remU divU tmodU tdivU byteU shrU I8_ne I8_eq
theorem get_no (a : Option Addr) (c n : Nat) (p z : Int) (w : World) (h : isWd z = false ∨ p < 0) :
    Calls Tryd.prog 6 #[.slice a n c, .int .i64 p, .int .i64 z] w fun e w' => e = .returned (.tuple #[.int .u64 (U 0), .int .i64 2]) ∧ w = w' := by
  go_enter Tryd.func6, Tryd.ntmps6
  go_wp2_with fail
  refine (room_no a c n p z w h).mono ?_
  rintro e w' ⟨rfl, rfl⟩
  go_wp2
  go_ret2
  exact ⟨by rw [U_zero]; rfl, rfl⟩
theorem get_short (a : Option Addr) (c n wd : Nat) (p : Int) (w : World) (hn : n ≤ 140737488351300) (hw : Wd wd) (hp : 0 ≤ p) (hp2 : p ≤ 9223372036854775807) (h : (n : Int) < p + wd) :
    Calls Tryd.prog 6 #[.slice a n c, .int .i64 p, .int .i64 wd] w fun e w' => e = .returned (.tuple #[.int .u64 (U 0), .int .i64 10]) ∧ w = w' := by
  go_enter Tryd.func6, Tryd.ntmps6
  go_wp2_with fail
  refine (room_short a c n wd p w hn hw hp hp2 h).mono ?_
  rintro e w' ⟨rfl, rfl⟩
  go_wp2
  go_ret2
  exact ⟨by rw [U_zero]; rfl, rfl⟩
theorem get_yes (a : Option Addr) (c : Nat) (l : List UInt8) (wd p : Nat) (w : World) (hl : l.length ≤ 140737488351300) (hc : l.length ≤ c) (hb : Bytes w a l) (hw : Wd wd) (h : p + wd ≤ l.length) :
    Calls Tryd.prog 6 #[.slice a l.length c, .int .i64 p, .int .i64 wd] w fun e w' => e = .returned (.tuple #[.int .u64 (U (be ((l.drop p).take wd))), .int .i64 0]) ∧ w = w' := by
  have hle := hw.le
  obtain ⟨b, off, rfl, _⟩ := hb.at (by omega)
  have hlen : ((l.drop p).take wd).length = wd := by rw [List.length_take, List.length_drop]; omega
  have HL := Lib.hid hlen; clear hlen
  go_enter Tryd.func6, Tryd.ntmps6
  go_wp2_with fail
  refine (room_yes _ c _ wd p w hl hw h).mono ?_
  rintro e w' ⟨rfl, rfl⟩
  go_wp2_with fail
  have hnum := number_any (some ⟨b, off + p, none⟩) (c - p) ((l.drop p).take wd) w (by rw [HL.out]; omega) (hb.sub p wd h)
  rw [HL.out] at hnum
  refine hnum.mono ?_
  rintro e w' ⟨rfl, rfl⟩
  go_wp2
  go_ret2
  exact ⟨rfl, rfl⟩

theorem set_no (a : Option Addr) (c n : Nat) (p z : Int) (x : Value) (w : World) (h : isWd z = false ∨ p < 0) :
    Calls Tryd.prog 7 #[.slice a n c, .int .i64 p, .int .i64 z, x] w fun e w' => e = .returned (.tuple #[.slice none 0 0, .int .i64 2]) ∧ w = w' := by
  go_enter Tryd.func7, Tryd.ntmps7
  go_wp2_with fail
  refine (room_no a c n p z w h).mono ?_
  rintro e w' ⟨rfl, rfl⟩
  go_wp2
  go_ret2
  exact ⟨rfl, rfl⟩
theorem set_short (a : Option Addr) (c n wd : Nat) (p : Int) (x : Value) (w : World) (hn : n ≤ 140737488351300) (hw : Wd wd) (hp : 0 ≤ p) (hp2 : p ≤ 9223372036854775807) (h : (n : Int) < p + wd) :
    Calls Tryd.prog 7 #[.slice a n c, .int .i64 p, .int .i64 wd, x] w fun e w' => e = .returned (.tuple #[.slice none 0 0, .int .i64 10]) ∧ w = w' := by
  go_enter Tryd.func7, Tryd.ntmps7
  go_wp2_with fail
  refine (room_short a c n wd p w hn hw hp hp2 h).mono ?_
  rintro e w' ⟨rfl, rfl⟩
  go_wp2
  go_ret2
  exact ⟨rfl, rfl⟩
set_option maxHeartbeats 400000 in
theorem set_yes (a : Option Addr) (c : Nat) (l : List UInt8) (wd p n : Nat) (w : World) (hl : l.length ≤ 140737488351300) (hc0 : a = none → c = 0) (hb : Bytes w a l) (hw : Wd wd) (h : p + wd ≤ l.length) (hn : n < 18446744073709551616) :
    Calls Tryd.prog 7 #[.slice a l.length c, .int .i64 p, .int .i64 wd, .int .u64 (U n)] w fun e w' => ∃ v, e = .returned (.tuple #[v, .int .i64 0]) ∧ Fresh w.heap.size w w' v (put l p (by8 wd n)) := by
  have hle := hw.le
  have HC := Lib.hid hc0; clear hc0
  have HPL := Lib.hid (put_length l p (by8 wd n) (by rw [by8_length]; exact h))
  go_enter Tryd.func7, Tryd.ntmps7
  go_wp2_with fail
  refine (room_yes _ c _ wd p w hl hw h).mono ?_
  rintro e w' ⟨rfl, rfl⟩
  go_wp2_with fail
  refine (Clone_any a c l w hl HC.out hb).mono ?_
  rintro e w1 ⟨v, rfl, hgot⟩
  obtain ⟨g, cap, rfl, hg, hlt, hcap⟩ := hgot.addr (by omega)
  obtain ⟨hown, hf⟩ := hgot
  go_wp2_with fail
  refine (lay_room w.heap.size g cap p wd n l w1 hle hn h hl hown).mono ?_
  rintro e w2 ⟨rfl, hown2, hf2⟩
  go_wp2
  go_ret2
  refine ⟨_, rfl, g, cap, by rw [HPL.out]; rfl, hg, ?_, ?_, hf.next hf2 (by simp; omega)⟩
  · have := hf2.size; omega
  · rw [HPL.out]; exact hown2

/-! the document's -/
/-- the bytes that have been laid from the last one on -/
def tl (wd n k : Nat) : List UInt8 := List.replicate (wd - k) 0 ++ by8 k n
theorem tl_length (wd n k : Nat) (h : k ≤ wd) : (tl wd n k).length = wd := by unfold tl; rw [List.length_append, List.length_replicate, by8_length]; omega
theorem by8_succ : ∀ (k n : Nat), by8 (k + 1) n = UInt8.ofNat (n / 256 ^ k) :: by8 k n
  | 0, n => by simp [by8]
  | k + 1, n => by
    show by8 (k + 1) (n / 256) ++ [UInt8.ofNat n] = _
    rw [by8_succ k (n / 256), Nat.div_div_eq_div_mul, Nat.mul_comm, ← Nat.pow_succ]
    rfl
theorem tl_next (wd n k : Nat) (h : k < wd) : (tl wd n k).set (wd - 1 - k) (UInt8.ofNat (n / 256 ^ k)) = tl wd n (k + 1) := by
  unfold tl
  have e : wd - k = (wd - (k + 1)) + 1 := by omega
  rw [e, List.replicate_succ', List.append_assoc, List.set_append_right _ _ (by rw [List.length_replicate]; omega), List.length_replicate]
  rw [show wd - 1 - k - (wd - (k + 1)) = 0 by omega, by8_succ]
  rfl
theorem div_step (n k : Nat) (h : n < 18446744073709551616) : n / 256 ^ k % 18446744073709551616 / 256 = n / 256 ^ (k + 1) := by
  rw [Nat.mod_eq_of_lt (Nat.lt_of_le_of_lt (Nat.div_le_self _ _) h), Nat.div_div_eq_div_mul, Nat.pow_succ]
theorem ofNat_mod (n : Nat) : UInt8.ofNat (n % 256) = UInt8.ofNat n := by
  apply UInt8.toNat_inj.1; simp
end Go.Proofs.YtapemanjpfjjpaaDoor
