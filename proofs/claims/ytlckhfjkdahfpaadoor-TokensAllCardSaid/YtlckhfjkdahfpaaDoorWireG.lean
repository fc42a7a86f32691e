/- The walks of wire's leaves and of the document's: widths, numbers, copies. -/
import Derived.Test.YtlckhfjkdahfpaaDoorU64
import Derived.BigQuiet
import Derived.Lib.SliceRun
import Derived.Test.YtlckhfjkdahfpaaDoorFresh
namespace Go.Proofs.YtlckhfjkdahfpaaDoor
open Go.RowKit
attribute [local go_sem] wrapU_nat wrapU_I8 wrapU addU mulU remU divU byteU shrU I8_ne I8_eq
attribute [local go_sem ↓] shlU8
/-- a width -/
def Wd (w : Nat) : Prop := w = 1 ∨ w = 2 ∨ w = 4 ∨ w = 8
theorem Wd.le {w : Nat} (h : Wd w) : 1 ≤ w ∧ w ≤ 8 := by rcases h with h | h | h | h <;> omega
def isWd (z : Int) : Bool := z == 1 || z == 2 || z == 4 || z == 8
theorem isWd_nat (w : Nat) (h : Wd w) : isWd (w : Int) = true := by rcases h with rfl | rfl | rfl | rfl <;> rfl
theorem isWd_of (z : Int) (h : isWd z = true) : ∃ w : Nat, z = (w : Int) ∧ Wd w := by
  simp only [isWd, Bool.or_eq_true, beq_iff_eq] at h
  rcases h with ((h | h) | h) | h
  · exact ⟨1, h, .inl rfl⟩
  · exact ⟨2, h, .inr (.inl rfl)⟩
  · exact ⟨4, h, .inr (.inr (.inl rfl))⟩
  · exact ⟨8, h, .inr (.inr (.inr rfl))⟩
theorem isWd_no (z : Int) (h : isWd z = false) : (z == 1) = false ∧ (z == 2) = false ∧ (z == 4) = false ∧ (z == 8) = false := by
  simp only [isWd, Bool.or_eq_false_iff] at h
  exact ⟨h.1.1.1, h.1.1.2, h.1.2, h.2⟩

theorem isWidth_any (z : Int) (w : World) : Calls Tryd.prog 74 #[.int .i64 z] w fun e w' => e = .returned (.bool (isWd z)) ∧ w = w' := by
  cases hz : isWd z
  · obtain ⟨h1, h2, h4, h8⟩ := isWd_no z hz
    have HZ := Lib.hid hz; clear hz
    go_enter Tryd.func74, Tryd.ntmps74
    go_wp2
    go_ret
    exact ⟨rfl, rfl⟩
  · obtain ⟨v, rfl, hv⟩ := isWd_of z hz
    clear hz
    rcases hv with rfl | rfl | rfl | rfl
    all_goals
      go_enter Tryd.func74, Tryd.ntmps74
      go_wp2
      go_ret
      exact ⟨rfl, rfl⟩
theorem width_any (z : Int) (w : World) : Calls Tryd.prog 77 #[.int .i64 z] w fun e w' => e = .returned (.bool (isWd z)) ∧ w = w' := by
  cases hz : isWd z
  · obtain ⟨h1, h2, h4, h8⟩ := isWd_no z hz
    have HZ := Lib.hid hz; clear hz
    go_enter Tryd.func77, Tryd.ntmps77
    go_wp2
    go_ret
    exact ⟨rfl, rfl⟩
  · obtain ⟨v, rfl, hv⟩ := isWd_of z hz
    clear hz
    rcases hv with rfl | rfl | rfl | rfl
    all_goals
      go_enter Tryd.func77, Tryd.ntmps77
      go_wp2
      go_ret
      exact ⟨rfl, rfl⟩

theorem or_next (l : List UInt8) (x : UInt8) (h : l.length ≤ 7) : bits .or .u64 (U (be l * 256)) (U x.toNat) = U (be (l ++ [x])) := by
  rw [orU, be_snoc]
  have h1 := be_lt l
  have h2 : 256 ^ l.length ≤ 256 ^ 7 := Nat.pow_le_pow_right (by omega) h
  have h3 : (256 : Nat) ^ 7 = 72057594037927936 := by simp
  have hx := x.toNat_lt
  rw [Nat.mod_eq_of_lt (show be l * 256 < 18446744073709551616 by omega), Nat.mod_eq_of_lt (show x.toNat < 18446744073709551616 by omega)]
  have e : be l * 256 = be l <<< 8 := by rw [Nat.shiftLeft_eq]
  rw [e, ← Nat.shiftLeft_add_eq_or_of_lt (by omega : x.toNat < 2 ^ 8)]
theorem number_any (a : Option Addr) (cap : Nat) (l : List UInt8) (w : World) (hl : l.length ≤ 8) (hb : Bytes w a l) :
    Calls Tryd.prog 80 #[.slice a l.length cap] w fun e w' => e = .returned (.int .u64 (U (be l))) ∧ w = w' := by
  go_enter Tryd.func80, Tryd.ntmps80
  go_wp2_with fail
  go_loop [2, 7] (fun n i => ∃ k : Nat, k ≤ l.length ∧ i = .int .i64 k ∧ n = .int .u64 (U (be (l.take k)))) (fun _ i => l.length - (intOf i).toNat)
  case atStart => exact ⟨0, by omega, rfl, by rw [show be (l.take 0) = 0 from rfl, U_zero]⟩
  case round =>
    obtain ⟨k, hk, rfl, rfl⟩ := hrel
    by_cases hlt : k < l.length
    · obtain ⟨b, off, rfl, hc⟩ := hb.at (by omega)
      have hcell : w.cell? ⟨b, off + k, none⟩ = some (.int .u8 (I8 (l.getD k 0))) := hc k hlt
      have hor := or_next (l.take k) l[k] (by simp; omega)
      clear hc
      go_wp2
      go_round
      case rel => exact ⟨k + 1, by omega, by go_num, by rw [take_snoc l k hlt]⟩
      case measure => simp [intOf] <;> omega
    · go_wp2
      go_ret
      exact ⟨by rw [List.take_of_length_le (by omega)]; rfl, rfl⟩
end Go.Proofs.YtlckhfjkdahfpaaDoor

/- The walks of wire's and the document's functions over bytes: numbers read and laid, copies, comparison. -/
namespace Go.Proofs.YtlckhfjkdahfpaaDoor
open Go.RowKit
attribute [local go_sem] mulU256 wrapU_nat wrapU_I8 wrapU addU mulU remU divU byteU shrU I8_ne I8_eq
attribute [local go_sem ↓] shlU8
/-- from the last byte on: what has been summed -/
theorem val_next (l : List UInt8) (k : Nat) (h : k < l.length) : be (l.drop (l.length - (k + 1))) = (l.getD (l.length - (k + 1)) 0).toNat * 256 ^ k + be (l.drop (l.length - k)) := by
  have e : l.drop (l.length - (k + 1)) = l.getD (l.length - (k + 1)) 0 :: l.drop (l.length - k) := by
    rw [List.drop_eq_getElem_cons (by omega)]
    have : l.length - (k + 1) + 1 = l.length - k := by omega
    rw [this]
    simp [List.getD, show l.length - (k + 1) < l.length by omega]
  rw [e, be_cons]
  rw [show (l.drop (l.length - k)).length = k by simp; omega]
theorem U_congr {a b : Nat} (h : a = b) : Value.int .u64 (U a) = Value.int .u64 (U b) := by rw [h]

theorem val_any (a : Option Addr) (cap : Nat) (l : List UInt8) (w : World) (hl : l.length ≤ 8) (hb : Bytes w a l) :
    Calls Tryd.prog 67 #[.slice a l.length cap] w fun e w' => e = .returned (.int .u64 (U (be l))) ∧ w = w' := by
  go_enter Tryd.func67, Tryd.ntmps67
  go_wp2_with fail
  go_loop [3, 4, 5] (fun v p i => ∃ k : Nat, k ≤ l.length ∧ i = .int .i64 ((l.length : Int) - 1 - k) ∧ v = .int .u64 (U (be (l.drop (l.length - k)))) ∧ p = .int .u64 (U (256 ^ k))) (fun _ _ i => (intOf i + 1).toNat)
  case atStart => exact ⟨0, by omega, by simp, by rw [show be (l.drop (l.length - 0)) = 0 by simp [be], U_zero], by rw [U_lt _ (by decide)]; rfl⟩
  case round =>
    obtain ⟨k, hk, rfl, rfl, rfl⟩ := hrel
    by_cases hlt : k < l.length
    · obtain ⟨b, off, rfl, hc⟩ := hb.at (by omega)
      obtain ⟨j, hj⟩ : ∃ j : Nat, j = l.length - (k + 1) := ⟨_, rfl⟩
      have hcell : w.cell? ⟨b, off + j, none⟩ = some (.int .u8 (I8 (l.getD j 0))) := hc j (by omega)
      have e : (l.length : Int) - 1 - k = (j : Int) := by omega
      rw [e]
      have jlt : (j : Int) < (l.length : Int) := by omega
      have HV := Lib.hid (val_next l k hlt)
      have HJ := Lib.hid hj; clear hj e hc
      generalize hx : l.getD j 0 = x at hcell
      have HX := Lib.hid hx; clear hx
      go_wp2_with fail
      go_round
      case rel =>
        refine ⟨k + 1, by omega, congrArg (Value.int .i64) (by have := HJ.out; omega), U_congr ?_, U_congr ?_⟩
        · rw [HV.out, ← HJ.out, HX.out, Nat.mul_comm, Nat.add_comm]
        · exact (Nat.pow_succ 256 k).symm
      case measure => have := HJ.out; simp [intOf] <;> omega
    · have hkl : k = l.length := by omega
      have HK := Lib.hid (show be (l.drop (l.length - k)) = be l by rw [hkl]; simp)
      clear hkl
      go_wp2_with fail
      go_ret
      exact ⟨ret_eq (U_congr HK.out), rfl⟩

theorem copy_any (a : Option Addr) (cap : Nat) (l : List UInt8) (w : World) (hl : l.length ≤ 140737488351300) (hb : Bytes w a l) :
    Calls Tryd.prog 68 #[.slice a l.length cap] w fun e w' => ∃ v, e = .returned v ∧ Fresh w.heap.size w w' v l := by
  go_enter Tryd.func68, Tryd.ntmps68
  go_wp2_with fail
  go_loopw [3, 4] (fun v i wr => ∃ k : Nat, k ≤ l.length ∧ i = .int .i64 k ∧ wr.ownsRow w.heap.size 5 1 v (l.take k).length ((l.take k).map B8) ∧ v ≠ .slice none 0 0 ∧ Fr [] w wr) (fun _ i _ => l.length - (intOf i).toNat)
  case atStart => exact ⟨0, by omega, rfl, own_empty w 5, by simp, (Fr.refl _ _).alloc _⟩
  case round =>
    obtain ⟨k, hk, rfl, hown, hnil, hf⟩ := hrel
    have HNIL := Lib.hid hnil; clear hnil
    by_cases hlt : k < l.length
    · obtain ⟨b, off, rfl, hc⟩ := hb.at (by omega)
      have hcell : wr.cell? ⟨b, off + k, none⟩ = some (.int .u8 (I8 (l.getD k 0))) := hf.cell (hc k hlt) (by simp)
      clear hc
      obtain ⟨x, hx⟩ : ∃ x, x = l.getD k 0 := ⟨_, rfl⟩
      rw [← hx] at hcell
      have HX := Lib.hid hx; clear hx
      have HT := Lib.hid (show (l.take k).length = k by simp; omega)
      go_wp2_with (at_builtin; refine wpList_apB _ rfl _ _ 37 rfl w.heap.size 5 Tryd.underlying37 info8 u3 (l.take k) rfl (own_alloc hown _) (some ⟨wr.heap.size, 0, none⟩) 1 1 [x] rfl rfl (Bytes.one x rfl) (fun h => by cases h) (by rw [HT.out]; omega) (by have := hf.size; simp; omega) ?_; intro v' w1 happ; have HA := Lib.hid happ; clear happ)
      go_roundw
      case rel =>
        have ha := HA.out
        refine ⟨k + 1, by omega, by go_num, ?_, ?_, ?_⟩
        · have e : l.take (k + 1) = l.take k ++ [x] := by rw [take_snoc l k hlt, HX.out]; simp [List.getD, hlt]
          rw [e]; exact ha.own
        · intro e; have := (ha.nil.1 e).2; simp at this
        · exact (hf.alloc _).next ha.fr (by intro i hi hlt2; have := own_lt hown (g := i) (by simpa using hi); omega)
      case measure => simp [intOf] <;> omega
    · have e : l.take k = l := List.take_of_length_le (by omega)
      rw [e] at hown
      clear e
      go_wp2_with fail
      go_ret
      exact ⟨_, rfl, Fresh.mk hown HNIL.out hf⟩

theorem Clone_any (a : Option Addr) (cap : Nat) (l : List UInt8) (w : World) (hl : l.length ≤ 140737488351300) (hc : a = none → cap = 0) (hb : Bytes w a l) :
    Calls Tryd.prog 51 #[.slice a l.length cap] w fun e w' => ∃ v, e = .returned v ∧ Got w.heap.size w w' v l := by
  have qT : ∀ (w : World) (a : Option Addr) (n c n' c' : Nat), (binOp .eql 37 (.slice a n c) (.slice none n' c')).run Tryd.prog w = .ok (.bool a.isNone) w := fun w a n c n' c' => Lib.run_eql_slice_nil w _ _ a n c n' c' Tryd.underlying37
  cases a with
  | none =>
    have hl0 : l = [] := by
      rcases hb with h | ⟨_, _, h, _⟩
      · exact h
      · cases h
    subst hl0
    go_enter Tryd.func51, Tryd.ntmps51
    go_wp2
    go_ret
    exact ⟨_, rfl, World.ownsRow_nil _ _ _ _, Fr.refl _ _⟩
  | some ad =>
    have hb2 : Bytes (w.alloc (.cells #[] 5)) (some ad) l := hb.keep ((Fr.refl _ _).alloc _)
    clear hc
    go_enter Tryd.func51, Tryd.ntmps51
    go_wp2_with (at_builtin; refine wpList_apB _ rfl _ _ 37 rfl w.heap.size 5 Tryd.underlying37 info8 (.slice (some ⟨w.heap.size, 0, none⟩) 0 0) [] rfl (own_empty w 5) (some ad) _ cap l rfl rfl hb2 (fun h => by cases h) (by simp; omega) (by simp) ?_; intro v' w1 happ; have HA := Lib.hid happ; clear happ)
    go_ret
    have ha := HA.out
    exact ⟨v', rfl, ha.own, ((Fr.refl _ _).alloc _).next ha.fr (by intro i hi hlt; simp [Value.ownBlock] at hi; omega)⟩

/-- what 'byte(n >> s)' gives -/
theorem lay_byte (n wd k j : Nat) (hn : n < 18446744073709551616) (hj : j = wd - 1 - k) (hk : k < wd) : UInt8.ofNat (n % 18446744073709551616 / 2 ^ (8 * j)) = (by8 wd n).getD k 0 := by
  rw [by8_get wd n k hk, Nat.mod_eq_of_lt hn, Nat.pow_mul, ← hj]

set_option maxHeartbeats 400000 in
/-- a number is laid behind what the call owns -/
theorem lay_own (B : Nat) (v : Value) (xs : List UInt8) (wd n : Nat) (w : World) (hwd : 1 ≤ wd ∧ wd ≤ 8) (hn : n < 18446744073709551616) (hx : xs.length ≤ 140737488351400) (hown : w.ownsRow B 5 1 v xs.length (xs.map B8)) (hB : B ≤ w.heap.size) :
    Calls Tryd.prog 75 #[v, .int .i64 wd, .int .u64 (U n)] w fun e w' => ∃ v', e = .returned v' ∧ w'.ownsRow B 5 1 v' (xs ++ by8 wd n).length ((xs ++ by8 wd n).map B8) ∧ Fr v.ownBlock.toList w w' ∧ (v'.ownBlock = v.ownBlock ∨ ∃ g, v'.ownBlock = some g ∧ w.heap.size ≤ g) := by
  obtain ⟨hw1, hw2⟩ := hwd
  go_enter Tryd.func75, Tryd.ntmps75
  go_wp2_with fail
  go_loopw [0, 7] (fun b s wr => ∃ k : Nat, k ≤ wd ∧ s = .int .i64 (8 * ((wd : Int) - 1) - 8 * k) ∧ wr.ownsRow B 5 1 b (xs ++ (by8 wd n).take k).length ((xs ++ (by8 wd n).take k).map B8) ∧ Fr v.ownBlock.toList w wr ∧ (b.ownBlock = v.ownBlock ∨ ∃ g, b.ownBlock = some g ∧ w.heap.size ≤ g)) (fun _ s _ => (intOf s + 8).toNat)
  case atStart => exact ⟨0, by omega, by simp, by simpa using hown, Fr.refl _ _, .inl rfl⟩
  case round =>
    obtain ⟨k, hk, rfl, hown2, hf, hblk⟩ := hrel
    have HB := Lib.hid hblk; clear hblk
    by_cases hlt : k < wd
    · obtain ⟨j, hj⟩ : ∃ j : Nat, j = wd - 1 - k := ⟨_, rfl⟩
      have e : 8 * ((wd : Int) - 1) - 8 * k = ((8 * j : Nat) : Int) := by omega
      rw [e]
      have hsz := hf.size
      have hj8 : 8 * j ≤ 64 := by omega
      have hlb := lay_byte n wd k j hn hj hlt
      have hsh : ∀ yk, Op.shift .shr .u64 (U n) yk ((8 * j : Nat) : Int) = pure (.int .u64 (U (n % 18446744073709551616 / 2 ^ (8 * j)))) := fun yk => shrU_op n yk (8 * j) hj8
      have HT := Lib.hid (show (xs ++ (by8 wd n).take k).length = xs.length + k by rw [List.length_append, List.length_take, by8_length]; omega)
      have HJ := Lib.hid hj; clear hj e
      generalize hx2 : (by8 wd n).getD k 0 = x at hlb
      have HX := Lib.hid hx2; clear hx2
      go_wp2_with (at_builtin; refine wpList_apB _ rfl _ _ 37 rfl B 5 Tryd.underlying37 info8 u0 (xs ++ (by8 wd n).take k) rfl (own_alloc hown2 _) (some ⟨wr.heap.size, 0, none⟩) 1 1 [x] rfl rfl (Bytes.one x rfl) (fun h => by cases h) (by rw [HT.out]; omega) (by simp; omega) ?_; intro v' w1 happ; have HA := Lib.hid happ; clear happ)
      go_roundw
      case rel =>
        have ha := HA.out
        have e : xs ++ (by8 wd n).take (k + 1) = xs ++ (by8 wd n).take k ++ [x] := by
          rw [take_snoc _ k (by rw [by8_length]; exact hlt), ← HX.out, List.append_assoc]
          simp [List.getD, by8_length, hlt]
        refine ⟨k + 1, by omega, congrArg (Value.int .i64) (by have := HJ.out; omega), by rw [e]; exact ha.own, (hf.alloc _).next ha.fr ?_, ?_⟩
        · intro i hi hlt2
          rcases HB.out with h | ⟨g, h, hg⟩
          · rw [h] at hi; exact hi
          · rw [h] at hi; simp at hi; omega
        · rcases ha.blk with h | ⟨g, h, hg⟩
          · rw [h]; exact HB.out
          · exact .inr ⟨g, h, by simp at hg; omega⟩
      case measure => have := HJ.out; simp [intOf] <;> omega
    · have e : (by8 wd n).take k = by8 wd n := List.take_of_length_le (by rw [by8_length]; omega)
      rw [e] at hown2
      have e2 : 8 * ((wd : Int) - 1) - 8 * k = -8 := by omega
      rw [e2]
      clear e e2
      go_wp2_with fail
      go_ret
      exact ⟨_, rfl, hown2, hf, HB.out⟩

set_option maxHeartbeats 400000 in
/-- a number is laid into an own block -/
theorem lay_room (B g cap at_ wd n : Nat) (ys : List UInt8) (w : World) (hwd : 1 ≤ wd ∧ wd ≤ 8) (hn : n < 18446744073709551616) (ha : at_ + wd ≤ ys.length) (hy : ys.length ≤ 140737488351300) (hown : w.ownsRow B 5 1 (.slice (some ⟨g, 0, none⟩) ys.length cap) ys.length (ys.map B8)) :
    Calls Tryd.prog 75 #[.slice (some ⟨g, 0, none⟩) at_ (at_ + wd), .int .i64 wd, .int .u64 (U n)] w fun e w' => e = .returned (.slice (some ⟨g, 0, none⟩) (at_ + wd) (at_ + wd)) ∧ w'.ownsRow B 5 1 (.slice (some ⟨g, 0, none⟩) ys.length cap) ys.length ((put ys at_ (by8 wd n)).map B8) ∧ Fr [g] w w' := by
  obtain ⟨hw1, hw2⟩ := hwd
  go_enter Tryd.func75, Tryd.ntmps75
  go_wp2_with fail
  go_loopw [0, 7] (fun b s wr => ∃ k : Nat, k ≤ wd ∧ s = .int .i64 (8 * ((wd : Int) - 1) - 8 * k) ∧ b = .slice (some ⟨g, 0, none⟩) (at_ + k) (at_ + wd) ∧ wr.ownsRow B 5 1 (.slice (some ⟨g, 0, none⟩) ys.length cap) ys.length ((put ys at_ ((by8 wd n).take k)).map B8) ∧ Fr [g] w wr) (fun _ s _ => (intOf s + 8).toNat)
  case atStart => exact ⟨0, by omega, by simp, rfl, by simpa [put] using hown, Fr.refl _ _⟩
  case round =>
    obtain ⟨k, hk, rfl, rfl, hown2, hf⟩ := hrel
    by_cases hlt : k < wd
    · obtain ⟨j, hj⟩ : ∃ j : Nat, j = wd - 1 - k := ⟨_, rfl⟩
      have e : 8 * ((wd : Int) - 1) - 8 * k = ((8 * j : Nat) : Int) := by omega
      rw [e]
      have hj8 : 8 * j ≤ 64 := by omega
      have hlb := lay_byte n wd k j hn hj hlt
      have hsh : ∀ yk, Op.shift .shr .u64 (U n) yk ((8 * j : Nat) : Int) = pure (.int .u64 (U (n % 18446744073709551616 / 2 ^ (8 * j)))) := fun yk => shrU_op n yk (8 * j) hj8
      have hpl : (put ys at_ ((by8 wd n).take k)).length = ys.length := put_length _ _ _ (by rw [List.length_take, by8_length]; omega)
      have ho3 : wr.ownsRow B 5 1 (.slice (some ⟨g, 0, none⟩) (put ys at_ ((by8 wd n).take k)).length cap) (put ys at_ ((by8 wd n).take k)).length ((put ys at_ ((by8 wd n).take k)).map B8) := by rw [hpl]; exact hown2
      have HPL := Lib.hid hpl; clear hpl hown2
      have HJ := Lib.hid hj; clear hj e
      generalize hx2 : (by8 wd n).getD k 0 = x at hlb
      have HX := Lib.hid hx2; clear hx2
      go_wp2_with (at_builtin; refine wpList_layB _ rfl _ _ 37 rfl B 5 Tryd.underlying37 info8 g cap (at_ + k) (at_ + wd) (put ys at_ ((by8 wd n).take k)) rfl (own_alloc ho3 _) (by rw [HPL.out]; omega) (by omega) ⟨wr.heap.size, 0, none⟩ 1 x rfl (Bytes.one x rfl) ?_; intro w1 h1 h2; have H1 := Lib.hid h1; have H2 := Lib.hid h2; clear h1 h2)
      go_roundw
      case rel =>
        refine ⟨k + 1, by omega, congrArg (Value.int .i64) (by have := HJ.out; omega), rfl, ?_, (hf.alloc _).next H2.out (by simp)⟩
        have h := H1.out
        rw [HPL.out, ← HX.out, put_next _ _ _ _ (by rw [by8_length]; exact hlt) (by rw [by8_length]; exact ha)] at h
        exact h
      case measure => have := HJ.out; simp [intOf] <;> omega
    · have e : (by8 wd n).take k = by8 wd n := List.take_of_length_le (by rw [by8_length]; omega)
      rw [e] at hown2
      have e2 : 8 * ((wd : Int) - 1) - 8 * k = -8 := by omega
      rw [e2, show at_ + k = at_ + wd by omega]
      clear e e2
      go_wp2_with fail
      go_ret
      exact ⟨rfl, hown2, hf⟩

/-! room, Get, Set -/
end Go.Proofs.YtlckhfjkdahfpaaDoor

/- The walks of wire.Get and wire.Set and of the document's. -/
namespace Go.Proofs.YtlckhfjkdahfpaaDoor
open Go.RowKit
attribute [local go_sem] mulU256 wrapU_nat wrapU_I8 wrapU addU mulU remU divU tmodU tdivU byteU shrU I8_ne I8_eq
/-! the document's -/
set_option maxHeartbeats 400000 in
theorem refnum_no (z : Int) (x : Value) (w : World) (hz : isWd z = false) :
    Calls Tryd.prog 65 #[.int .i64 z, x] w fun e w' => ∃ v, e = .returned v ∧ Fresh w.heap.size w w' v [] := by
  go_enter Tryd.func65, Tryd.ntmps65
  go_wp2_with fail
  refine (width_any z _).mono ?_
  rintro e w' ⟨rfl, rfl⟩
  go_wp2
  go_ret
  exact ⟨_, rfl, _, _, rfl, Nat.le_refl _, by simp, own_empty w _, (Fr.refl _ _).alloc _⟩
/-- the bytes that have been laid from the last one on -/
def tl (wd n k : Nat) : List UInt8 := List.replicate (wd - k) 0 ++ by8 k n
theorem tl_length (wd n k : Nat) (h : k ≤ wd) : (tl wd n k).length = wd := by unfold tl; rw [List.length_append, List.length_replicate, by8_length]; omega
theorem by8_succ : ∀ (k n : Nat), by8 (k + 1) n = UInt8.ofNat (n / 256 ^ k) :: by8 k n
  | 0, n => by simp [by8]
  | k + 1, n => by
    show by8 (k + 1) (n / 256) ++ [UInt8.ofNat n] = _
    rw [by8_succ k (n / 256), Nat.div_div_eq_div_mul, Nat.mul_comm, ← Nat.pow_succ]
    rfl
theorem tl_next (wd n k : Nat) (h : k < wd) : (tl wd n k).set (wd - 1 - k) (UInt8.ofNat (n / 256 ^ k)) = tl wd n (k + 1) := by
  unfold tl
  have e : wd - k = (wd - (k + 1)) + 1 := by omega
  rw [e, List.replicate_succ', List.append_assoc, List.set_append_right _ _ (by rw [List.length_replicate]; omega), List.length_replicate]
  rw [show wd - 1 - k - (wd - (k + 1)) = 0 by omega, by8_succ]
  rfl
theorem div_step (n k : Nat) (h : n < 18446744073709551616) : n / 256 ^ k % 18446744073709551616 / 256 = n / 256 ^ (k + 1) := by
  rw [Nat.mod_eq_of_lt (Nat.lt_of_le_of_lt (Nat.div_le_self _ _) h), Nat.div_div_eq_div_mul, Nat.pow_succ]
theorem ofNat_mod (n : Nat) : UInt8.ofNat (n % 256) = UInt8.ofNat n := by
  apply UInt8.toNat_inj.1; simp
set_option maxHeartbeats 800000 in
theorem refnum_yes (wd n : Nat) (w : World) (hw : Wd wd) (hn : n < 18446744073709551616) :
    Calls Tryd.prog 65 #[.int .i64 wd, .int .u64 (U n)] w fun e w' => ∃ v, e = .returned v ∧ Fresh w.heap.size w w' v (by8 wd n) := by
  have hle := hw.le
  have hz := isWd_nat wd hw
  go_enter Tryd.func65, Tryd.ntmps65
  go_wp2_with fail
  refine (width_any wd _).mono ?_
  rintro e w' ⟨rfl, rfl⟩
  go_wp2_with fail
  go_loopw [5, 6] (fun v i wr => ∃ k : Nat, k ≤ wd ∧ i = .int .i64 k ∧ wr.ownsRow w.heap.size 5 1 v (List.replicate k (0 : UInt8)).length ((List.replicate k (0 : UInt8)).map B8) ∧ v ≠ .slice none 0 0 ∧ Fr [] w wr) (fun _ i _ => wd - (intOf i).toNat)
  case atStart => exact ⟨0, by omega, rfl, own_empty w 5, by simp, (Fr.refl _ _).alloc _⟩
  case round =>
    obtain ⟨k, hk, rfl, hown, hnil, hf⟩ := hrel
    have HNIL := Lib.hid hnil; clear hnil
    by_cases hlt : k < wd
    · have I0 : Value.int .u8 0 = .int .u8 (I8 0) := by rw [show I8 0 = 0 by decide +kernel]
      have HI := Lib.hid I0; clear I0
      go_wp2_with (at_builtin; rw [HI.out]; refine wpList_apB _ rfl _ _ 37 rfl w.heap.size 5 Tryd.underlying37 info8 u5 (List.replicate k 0) rfl (own_alloc hown _) (some ⟨wr.heap.size, 0, none⟩) 1 1 [0] rfl rfl (Bytes.one 0 rfl) (fun h => by cases h) (by simp; omega) (by have := hf.size; simp; omega) ?_; intro v' w1 happ; have HA := Lib.hid happ; clear happ)
      go_roundw
      case rel =>
        have ha := HA.out
        refine ⟨k + 1, by omega, by go_num, ?_, ?_, ?_⟩
        · rw [List.replicate_succ']; exact ha.own
        · intro e; have := (ha.nil.1 e).2; simp at this
        · exact (hf.alloc _).next ha.fr (by intro i hi hlt2; have := own_lt hown (g := i) (by simpa using hi); omega)
      case measure => simp [intOf] <;> omega
    · have hkw : k = wd := by omega
      rw [hkw] at hown
      clear hkw
      have hgot : Got w.heap.size w wr u5 (List.replicate wd 0) := ⟨hown, hf⟩
      obtain ⟨g, cap, rfl, hg, hlt2, hcap⟩ := hgot.addr (by simp; omega)
      have hrl : (List.replicate wd (0 : UInt8)).length = wd := by simp
      rw [hrl] at hown ⊢
      clear hgot hrl hcap HNIL
      go_wp2_with fail
      obtain ⟨w1, hw1⟩ : ∃ w1, w1 = wr := ⟨_, rfl⟩
      rw [← hw1] at hf hown hlt2 ⊢
      clear hw1
      go_loopw [1, 7] (fun x i wr => ∃ k : Nat, k ≤ wd ∧ i = .int .i64 ((wd : Int) - 1 - k) ∧ x = .int .u64 (U (n / 256 ^ k)) ∧ wr.ownsRow w.heap.size 5 1 (.slice (some ⟨g, 0, none⟩) (tl wd n k).length cap) (tl wd n k).length ((tl wd n k).map B8) ∧ Fr [] w wr) (fun _ i _ => (intOf i + 1).toNat)
      case atStart => exact ⟨0, by omega, by simp, by simp, by rw [tl_length _ _ _ (by omega)]; simpa [tl, by8] using hown, hf⟩
      case round =>
        obtain ⟨k, hk, rfl, rfl, hown3, hf3⟩ := hrel
        clear hf hown
        by_cases hlt3 : k < wd
        · obtain ⟨j, hj⟩ : ∃ j : Nat, j = wd - 1 - k := ⟨_, rfl⟩
          have e : (wd : Int) - 1 - k = (j : Int) := by omega
          rw [e]
          have jlt : (j : Int) < (wd : Int) := by omega
          have hcell : ∃ v, wr.cell? ⟨g, j, none⟩ = some v := by
            obtain ⟨_, _, e1, hc1⟩ := (own_bytes hown3).at (by rw [tl_length _ _ _ hk]; omega)
            cases e1
            have := hc1 j (by rw [tl_length _ _ _ hk]; omega)
            rw [Nat.zero_add] at this
            exact ⟨_, this⟩
          obtain ⟨v0, hcell⟩ := hcell
          have hfz := own_free hown3 (g := g) rfl j
          have hbyte : IntKind.u8.wrap (U (n / 256 ^ k % 256)) = I8 (UInt8.ofNat (n / 256 ^ k)) := by rw [byteU, ofNat_mod]
          have hdiv := div_step n k hn
          have HD := Lib.hid hdiv; clear hdiv
          have HJ := Lib.hid hj; clear hj e
          go_wp2_with fail
          go_roundw
          case rel =>
            refine ⟨k + 1, by omega, congrArg (Value.int .i64) (by have := HJ.out; omega), U_congr HD.out, ?_, hf3.setCell (fun h => absurd h (by show ¬ g < _; omega)) _⟩
            have h2 := own_set hown3 j (UInt8.ofNat (n / 256 ^ k))
            rw [HJ.out, tl_next _ _ _ hlt3, tl_length _ _ _ hk] at h2
            rw [tl_length _ _ _ (show k + 1 ≤ wd by omega)]
            rw [HJ.out]
            exact h2
          case measure => have := HJ.out; simp [intOf] <;> omega
        · have hkw : k = wd := by omega
          rw [hkw, show tl wd n wd = by8 wd n by simp [tl], by8_length] at hown3
          rw [show (wd : Int) - 1 - k = -1 by omega]
          have HO := Lib.hid hown3; clear hown3 hkw
          go_wp2_with fail
          go_ret
          refine ⟨.slice (some ⟨g, 0, none⟩) wd cap, rfl, g, cap, by rw [by8_length], hg, ?_, by rw [by8_length]; exact HO.out, hf3⟩
          exact (own_lt HO.out (g := g) rfl).2
end Go.Proofs.YtlckhfjkdahfpaaDoor

/- The walks of the document's Get and Set, and of the laws WireGets and WireSets. -/
namespace Go.Proofs.YtlckhfjkdahfpaaDoor
open Go.RowKit
attribute [local go_sem] mulU256 wrapU_nat wrapU_I8 wrapU addU mulU remU divU byteU shrU I8_ne I8_eq U_eq U_ne
/-- what both Gets answer -/
def getNum (l : List UInt8) (p z : Int) : Nat := if isWd z = true ∧ 0 ≤ p ∧ p + z ≤ l.length then be ((l.drop p.toNat).take z.toNat) else 0
def getErr (l : List UInt8) (p z : Int) : Int := if isWd z = false ∨ p < 0 then 2 else if (l.length : Int) < p + z then 10 else 0
theorem get_cases (l : List UInt8) (p z : Int) : (isWd z = false ∨ p < 0) ∨ (∃ wd : Nat, z = wd ∧ Wd wd ∧ 0 ≤ p ∧ (l.length : Int) < p + wd) ∨ ∃ wd q : Nat, z = wd ∧ p = q ∧ Wd wd ∧ q + wd ≤ l.length := by
  by_cases h1 : isWd z = false ∨ p < 0
  · exact .inl h1
  · have hz : isWd z = true := by cases hz : isWd z <;> simp_all
    have hp : 0 ≤ p := by omega
    obtain ⟨wd, rfl, hw⟩ := isWd_of z hz
    by_cases h2 : (l.length : Int) < p + wd
    · exact .inr (.inl ⟨wd, rfl, hw, hp, h2⟩)
    · exact .inr (.inr ⟨wd, p.toNat, rfl, by omega, hw, by omega⟩)

end Go.Proofs.YtlckhfjkdahfpaaDoor

/- The walks of the laws WireGets and WireSets. -/
namespace Go.Proofs.YtlckhfjkdahfpaaDoor
open Go.RowKit
attribute [local go_sem] mulU256 wrapU_nat wrapU_I8 wrapU addU mulU remU divU byteU shrU I8_ne I8_eq U_eq U_ne
theorem getNum_no {l : List UInt8} {p z : Int} (h : isWd z = false ∨ p < 0) : getNum l p z = 0 := by
  unfold getNum
  rw [if_neg]
  rintro ⟨h1, h2, _⟩
  rcases h with h | h
  · rw [h] at h1; cases h1
  · omega
theorem getErr_no {l : List UInt8} {p z : Int} (h : isWd z = false ∨ p < 0) : getErr l p z = 2 := by unfold getErr; rw [if_pos h]
theorem getNum_short {l : List UInt8} {p z : Int} (h : (l.length : Int) < p + z) : getNum l p z = 0 := by
  unfold getNum
  rw [if_neg]
  rintro ⟨_, _, h3⟩
  omega
theorem getErr_short {l : List UInt8} {p : Int} {wd : Nat} (hw : Wd wd) (hp : 0 ≤ p) (h : (l.length : Int) < p + wd) : getErr l p wd = 10 := by
  unfold getErr
  rw [if_neg (by rw [isWd_nat wd hw]; simp; omega), if_pos h]
theorem getNum_yes {l : List UInt8} {wd p : Nat} (hw : Wd wd) (h : p + wd ≤ l.length) : getNum l p wd = be ((l.drop p).take wd) := by
  unfold getNum
  rw [if_pos ⟨isWd_nat wd hw, by omega, by omega⟩]
  rfl
theorem getErr_yes {l : List UInt8} {wd p : Nat} (hw : Wd wd) (h : p + wd ≤ l.length) : getErr l p wd = 0 := by
  unfold getErr
  rw [if_neg (by rw [isWd_nat wd hw]; simp), if_neg (by omega)]
/-- what both Sets answer -/
def setBytes (l : List UInt8) (p z : Int) (n : Nat) : List UInt8 := if getErr l p z = 0 then put l p.toNat (by8 z.toNat n) else []
theorem setBytes_ne {l : List UInt8} {p z : Int} {n : Nat} (h : getErr l p z ≠ 0) : setBytes l p z n = [] := if_neg h
theorem setBytes_yes {l : List UInt8} {wd p n : Nat} (hw : Wd wd) (h : p + wd ≤ l.length) : setBytes l p wd n = put l p (by8 wd n) := by
  unfold setBytes
  rw [if_pos (getErr_yes hw h)]
  rfl
theorem be23 : U (be (((lb [1, 2, 3]).drop 1).take 2)) = 515 := by rw [U_lt _ (by decide +kernel)]; decide +kernel
theorem put9 : put (lb [1, 2, 3]) 0 (by8 1 9) = lb [9, 2, 3] := by decide +kernel
theorem lb3 (a b c : Nat) : (lb [a, b, c]).length = 3 := rfl
end Go.Proofs.YtlckhfjkdahfpaaDoor

/- The walks of spoil and of wire's Writer. -/
namespace Go.Proofs.YtlckhfjkdahfpaaDoor
open Go.RowKit
attribute [local go_sem] mulU256 wrapU_nat wrapU_I8 wrapU addU mulU remU divU byteU shrU I8_ne I8_eq U_eq U_ne
theorem Bytes.new {w : World} {arr : Array Value} {t : Nat} {fr : Nat × Nat} {g : Nat} (l : List UInt8) (hg : g = w.heap.size) (ha : arr = (l.map B8).toArray) : Bytes (w.alloc (.cells arr t fr)) (some ⟨g, 0, none⟩) l := by
  subst ha
  subst hg
  refine Or.inr ⟨w.heap.size, 0, rfl, fun j hj => ?_⟩
  rw [Nat.zero_add, cell_of_row _ _ j _ t fr (heap_alloc_new w _), List.getElem?_toArray]
  simp [List.getD, hj]
/-- a shorter value of the same block -/
theorem own_pre {w w0 : World} {B e : Nat} {u v : Value} {xs ys : List UInt8} (hv : w0.ownsRow B e 1 v xs.length (xs.map B8)) (hu0 : w0.ownsRow B e 1 u (xs ++ ys).length ((xs ++ ys).map B8))
    (hu : w.ownsRow B e 1 u (xs ++ ys).length ((xs ++ ys).map B8)) (hb : u.ownBlock = v.ownBlock) : w.ownsRow B e 1 v xs.length (xs.map B8) := by
  refine ⟨by simp, ?_⟩
  rcases hv.2 with ⟨rfl, h0⟩ | ⟨g, cap, cur, rfl, hg, hh, hn, hm, hs, ht⟩
  · exact .inl ⟨rfl, h0⟩
  rcases hu0.2 with ⟨rfl, h0⟩ | ⟨g', cap', cur', rfl, hg', hh', hn', hm', hs', ht'⟩
  · simp [Value.ownBlock] at hb
  simp only [Value.ownBlock, Option.some.injEq] at hb
  subst hb
  rw [hh'] at hh
  simp only [Option.some.injEq, Obj.cells.injEq, true_and, and_true] at hh
  subst hh
  have : cap' = cap := by omega
  subst this
  rcases hu.2 with ⟨e1, _⟩ | ⟨g2, cap2, cur2, e1, hg2, hh2, hn2, hm2, hs2, ht2⟩
  · cases e1
  simp only [Value.slice.injEq, Option.some.injEq, Addr.mk.injEq] at e1
  obtain ⟨⟨rfl, _⟩, _, rfl⟩ := e1
  refine .inr ⟨g', cap', cur2, rfl, hg, hh2, hn, hm, hs2, ?_⟩
  rw [Nat.mul_one] at ht2 ⊢
  have h3 := congrArg (List.take xs.length) ht2
  rw [List.take_take, List.length_append, Nat.min_eq_left (by omega), List.map_append, List.take_append_of_le_length (by simp)] at h3
  rw [h3, List.take_of_length_le (by simp)]

theorem rep_set (l : List UInt8) (x : UInt8) (k : Nat) (h : k < l.length) : (List.replicate k x ++ l.drop k).set k x = List.replicate (k + 1) x ++ l.drop (k + 1) := by
  rw [List.set_append_right _ _ (by simp), List.length_replicate, Nat.sub_self, List.drop_eq_getElem_cons h, List.set_cons_zero, List.replicate_succ', List.append_assoc]
  rfl
end Go.Proofs.YtlckhfjkdahfpaaDoor
