/- The walks of wire.Get and wire.Set and of the document's. -/
import Derived.Test.YtkgfdcagninphaaDoorWireB
namespace Go.Proofs.YtkgfdcagninphaaDoor
open Go.RowKit
attribute [local go_sem] mulU256 wrapU_nat wrapU_I8 wrapU addU mulU remU divU tmodU tdivU byteU shrU I8_ne I8_eq
theorem get_no (a : Option Addr) (c n : Nat) (p z : Int) (w : World) (h : isWd z = false ∨ p < 0) :
    Calls Tryd.prog 44 #[.slice a n c, .int .i64 p, .int .i64 z] w fun e w' => e = .returned (.tuple #[.int .u64 (U 0), .int .i64 2]) ∧ w = w' := by
  go_enter Tryd.func44, Tryd.ntmps44
  go_wp2_with fail
  refine (room_no a c n p z w h).mono ?_
  rintro e w' ⟨rfl, rfl⟩
  go_wp2
  go_ret2
  exact ⟨by rw [U_zero]; rfl, rfl⟩
theorem get_short (a : Option Addr) (c n wd : Nat) (p : Int) (w : World) (hn : n ≤ 140737488351300) (hw : Wd wd) (hp : 0 ≤ p) (hp2 : p ≤ 9223372036854775807) (h : (n : Int) < p + wd) :
    Calls Tryd.prog 44 #[.slice a n c, .int .i64 p, .int .i64 wd] w fun e w' => e = .returned (.tuple #[.int .u64 (U 0), .int .i64 10]) ∧ w = w' := by
  go_enter Tryd.func44, Tryd.ntmps44
  go_wp2_with fail
  refine (room_short a c n wd p w hn hw hp hp2 h).mono ?_
  rintro e w' ⟨rfl, rfl⟩
  go_wp2
  go_ret2
  exact ⟨by rw [U_zero]; rfl, rfl⟩
theorem get_yes (a : Option Addr) (c : Nat) (l : List UInt8) (wd p : Nat) (w : World) (hl : l.length ≤ 140737488351300) (hc : l.length ≤ c) (hb : Bytes w a l) (hw : Wd wd) (h : p + wd ≤ l.length) :
    Calls Tryd.prog 44 #[.slice a l.length c, .int .i64 p, .int .i64 wd] w fun e w' => e = .returned (.tuple #[.int .u64 (U (be ((l.drop p).take wd))), .int .i64 0]) ∧ w = w' := by
  have hle := hw.le
  obtain ⟨b, off, rfl, _⟩ := hb.at (by omega)
  have hlen : ((l.drop p).take wd).length = wd := by rw [List.length_take, List.length_drop]; omega
  have HL := Lib.hid hlen; clear hlen
  go_enter Tryd.func44, Tryd.ntmps44
  go_wp2_with fail
  refine (room_yes _ c _ wd p w hl hw h).mono ?_
  rintro e w' ⟨rfl, rfl⟩
  go_wp2_with fail
  have hnum := number_any (some ⟨b, off + p, none⟩) (c - p) ((l.drop p).take wd) w (by rw [HL.out]; omega) (hb.sub p wd h)
  rw [HL.out] at hnum
  refine hnum.mono ?_
  rintro e w' ⟨rfl, rfl⟩
  go_wp2
  go_ret2
  exact ⟨rfl, rfl⟩

/-! the document's -/
set_option maxHeartbeats 400000 in
theorem refnum_no (z : Int) (x : Value) (w : World) (hz : isWd z = false) :
    Calls Tryd.prog 32 #[.int .i64 z, x] w fun e w' => ∃ v, e = .returned v ∧ Fresh w.heap.size w w' v [] := by
  go_enter Tryd.func32, Tryd.ntmps32
  go_wp2_with fail
  refine (width_any z _).mono ?_
  rintro e w' ⟨rfl, rfl⟩
  go_wp2
  go_ret
  exact ⟨_, rfl, _, _, rfl, Nat.le_refl _, by simp, own_empty w _, (Fr.refl _ _).alloc _⟩
/-- the bytes that have been laid from the last one on -/
def tl (wd n k : Nat) : List UInt8 := List.replicate (wd - k) 0 ++ by8 k n
theorem tl_length (wd n k : Nat) (h : k ≤ wd) : (tl wd n k).length = wd := by unfold tl; rw [List.length_append, List.length_replicate, by8_length]; omega
theorem by8_succ : ∀ (k n : Nat), by8 (k + 1) n = UInt8.ofNat (n / 256 ^ k) :: by8 k n
  | 0, n => by simp [by8]
  | k + 1, n => by
    show by8 (k + 1) (n / 256) ++ [UInt8.ofNat n] = _
    rw [by8_succ k (n / 256), Nat.div_div_eq_div_mul, Nat.mul_comm, ← Nat.pow_succ]
    rfl
theorem tl_next (wd n k : Nat) (h : k < wd) : (tl wd n k).set (wd - 1 - k) (UInt8.ofNat (n / 256 ^ k)) = tl wd n (k + 1) := by
  unfold tl
  have e : wd - k = (wd - (k + 1)) + 1 := by omega
  rw [e, List.replicate_succ', List.append_assoc, List.set_append_right _ _ (by rw [List.length_replicate]; omega), List.length_replicate]
  rw [show wd - 1 - k - (wd - (k + 1)) = 0 by omega, by8_succ]
  rfl
theorem div_step (n k : Nat) (h : n < 18446744073709551616) : n / 256 ^ k % 18446744073709551616 / 256 = n / 256 ^ (k + 1) := by
  rw [Nat.mod_eq_of_lt (Nat.lt_of_le_of_lt (Nat.div_le_self _ _) h), Nat.div_div_eq_div_mul, Nat.pow_succ]
theorem ofNat_mod (n : Nat) : UInt8.ofNat (n % 256) = UInt8.ofNat n := by
  apply UInt8.toNat_inj.1; simp
set_option maxHeartbeats 800000 in
theorem refnum_yes (wd n : Nat) (w : World) (hw : Wd wd) (hn : n < 18446744073709551616) :
    Calls Tryd.prog 32 #[.int .i64 wd, .int .u64 (U n)] w fun e w' => ∃ v, e = .returned v ∧ Fresh w.heap.size w w' v (by8 wd n) := by
  have hle := hw.le
  have hz := isWd_nat wd hw
  go_enter Tryd.func32, Tryd.ntmps32
  go_wp2_with fail
  refine (width_any wd _).mono ?_
  rintro e w' ⟨rfl, rfl⟩
  go_wp2_with fail
  go_loopw [5, 6] (fun v i wr => ∃ k : Nat, k ≤ wd ∧ i = .int .i64 k ∧ wr.ownsRow w.heap.size 5 1 v (List.replicate k (0 : UInt8)).length ((List.replicate k (0 : UInt8)).map B8) ∧ v ≠ .slice none 0 0 ∧ Fr [] w wr) (fun _ i _ => wd - (intOf i).toNat)
  case atStart => exact ⟨0, by omega, rfl, own_empty w 5, by simp, (Fr.refl _ _).alloc _⟩
  case round =>
    obtain ⟨k, hk, rfl, hown, hnil, hf⟩ := hrel
    have HNIL := Lib.hid hnil; clear hnil
    by_cases hlt : k < wd
    · have I0 : Value.int .u8 0 = .int .u8 (I8 0) := by rw [show I8 0 = 0 by decide +kernel]
      have HI := Lib.hid I0; clear I0
      go_wp2_with (at_builtin; rw [HI.out]; refine wpList_apB _ rfl _ _ 23 rfl w.heap.size 5 Tryd.underlying23 info8 u5 (List.replicate k 0) rfl (own_alloc hown _) (some ⟨wr.heap.size, 0, none⟩) 1 1 [0] rfl rfl (Bytes.one 0 rfl) (fun h => by cases h) (by simp; omega) (by have := hf.size; simp; omega) ?_; intro v' w1 happ; have HA := Lib.hid happ; clear happ)
      go_roundw
      case rel =>
        have ha := HA.out
        refine ⟨k + 1, by omega, by go_num, ?_, ?_, ?_⟩
        · rw [List.replicate_succ']; exact ha.own
        · intro e; have := (ha.nil.1 e).2; simp at this
        · exact (hf.alloc _).next ha.fr (by intro i hi hlt2; have := own_lt hown (g := i) (by simpa using hi); omega)
      case measure => simp [intOf] <;> omega
    · have hkw : k = wd := by omega
      rw [hkw] at hown
      clear hkw
      have hgot : Got w.heap.size w wr u5 (List.replicate wd 0) := ⟨hown, hf⟩
      obtain ⟨g, cap, rfl, hg, hlt2, hcap⟩ := hgot.addr (by simp; omega)
      have hrl : (List.replicate wd (0 : UInt8)).length = wd := by simp
      rw [hrl] at hown ⊢
      clear hgot hrl hcap HNIL
      go_wp2_with fail
      obtain ⟨w1, hw1⟩ : ∃ w1, w1 = wr := ⟨_, rfl⟩
      rw [← hw1] at hf hown hlt2 ⊢
      clear hw1
      go_loopw [1, 7] (fun x i wr => ∃ k : Nat, k ≤ wd ∧ i = .int .i64 ((wd : Int) - 1 - k) ∧ x = .int .u64 (U (n / 256 ^ k)) ∧ wr.ownsRow w.heap.size 5 1 (.slice (some ⟨g, 0, none⟩) (tl wd n k).length cap) (tl wd n k).length ((tl wd n k).map B8) ∧ Fr [] w wr) (fun _ i _ => (intOf i + 1).toNat)
      case atStart => exact ⟨0, by omega, by simp, by simp, by rw [tl_length _ _ _ (by omega)]; simpa [tl, by8] using hown, hf⟩
      case round =>
        obtain ⟨k, hk, rfl, rfl, hown3, hf3⟩ := hrel
        clear hf hown
        by_cases hlt3 : k < wd
        · obtain ⟨j, hj⟩ : ∃ j : Nat, j = wd - 1 - k := ⟨_, rfl⟩
          have e : (wd : Int) - 1 - k = (j : Int) := by omega
          rw [e]
          have jlt : (j : Int) < (wd : Int) := by omega
          have hcell : ∃ v, wr.cell? ⟨g, j, none⟩ = some v := by
            obtain ⟨_, _, e1, hc1⟩ := (own_bytes hown3).at (by rw [tl_length _ _ _ hk]; omega)
            cases e1
            have := hc1 j (by rw [tl_length _ _ _ hk]; omega)
            rw [Nat.zero_add] at this
            exact ⟨_, this⟩
          obtain ⟨v0, hcell⟩ := hcell
          have hfz := own_free hown3 (g := g) rfl j
          have hbyte : IntKind.u8.wrap (U (n / 256 ^ k % 256)) = I8 (UInt8.ofNat (n / 256 ^ k)) := by rw [byteU, ofNat_mod]
          have hdiv := div_step n k hn
          have HD := Lib.hid hdiv; clear hdiv
          have HJ := Lib.hid hj; clear hj e
          go_wp2_with fail
          go_roundw
          case rel =>
            refine ⟨k + 1, by omega, congrArg (Value.int .i64) (by have := HJ.out; omega), U_congr HD.out, ?_, hf3.setCell (fun h => absurd h (by show ¬ g < _; omega)) _⟩
            have h2 := own_set hown3 j (UInt8.ofNat (n / 256 ^ k))
            rw [HJ.out, tl_next _ _ _ hlt3, tl_length _ _ _ hk] at h2
            rw [tl_length _ _ _ (show k + 1 ≤ wd by omega)]
            rw [HJ.out]
            exact h2
          case measure => have := HJ.out; simp [intOf] <;> omega
        · have hkw : k = wd := by omega
          rw [hkw, show tl wd n wd = by8 wd n by simp [tl], by8_length] at hown3
          rw [show (wd : Int) - 1 - k = -1 by omega]
          have HO := Lib.hid hown3; clear hown3 hkw
          go_wp2_with fail
          go_ret
          refine ⟨.slice (some ⟨g, 0, none⟩) wd cap, rfl, g, cap, by rw [by8_length], hg, ?_, by rw [by8_length]; exact HO.out, hf3⟩
          exact (own_lt HO.out (g := g) rfl).2
end Go.Proofs.YtkgfdcagninphaaDoor
