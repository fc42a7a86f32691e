/- The walks of wire's and the document's functions over bytes: numbers read and laid, copies, comparison. -/
import Derived.Test.YtkgfdcagninphaaDoorWireA
namespace Go.Proofs.YtkgfdcagninphaaDoor
open Go.RowKit
attribute [local go_sem] mulU256 wrapU_nat wrapU_I8 wrapU addU mulU remU divU byteU shrU I8_ne I8_eq
attribute [local go_sem ↓] shlU8
/-- from the last byte on: what has been summed -/
theorem val_next (l : List UInt8) (k : Nat) (h : k < l.length) : be (l.drop (l.length - (k + 1))) = (l.getD (l.length - (k + 1)) 0).toNat * 256 ^ k + be (l.drop (l.length - k)) := by
  have e : l.drop (l.length - (k + 1)) = l.getD (l.length - (k + 1)) 0 :: l.drop (l.length - k) := by
    rw [List.drop_eq_getElem_cons (by omega)]
    have : l.length - (k + 1) + 1 = l.length - k := by omega
    rw [this]
    simp [List.getD, show l.length - (k + 1) < l.length by omega]
  rw [e, be_cons]
  rw [show (l.drop (l.length - k)).length = k by simp; omega]
theorem U_congr {a b : Nat} (h : a = b) : Value.int .u64 (U a) = Value.int .u64 (U b) := by rw [h]

theorem val_any (a : Option Addr) (cap : Nat) (l : List UInt8) (w : World) (hl : l.length ≤ 8) (hb : Bytes w a l) :
    Calls Tryd.prog 37 #[.slice a l.length cap] w fun e w' => e = .returned (.int .u64 (U (be l))) ∧ w = w' := by
  go_enter Tryd.func37, Tryd.ntmps37
  go_wp2_with fail
  go_loop [3, 4, 5] (fun v p i => ∃ k : Nat, k ≤ l.length ∧ i = .int .i64 ((l.length : Int) - 1 - k) ∧ v = .int .u64 (U (be (l.drop (l.length - k)))) ∧ p = .int .u64 (U (256 ^ k))) (fun _ _ i => (intOf i + 1).toNat)
  case atStart => exact ⟨0, by omega, by simp, by rw [show be (l.drop (l.length - 0)) = 0 by simp [be], U_zero], by rw [U_lt _ (by decide)]; rfl⟩
  case round =>
    obtain ⟨k, hk, rfl, rfl, rfl⟩ := hrel
    by_cases hlt : k < l.length
    · obtain ⟨b, off, rfl, hc⟩ := hb.at (by omega)
      obtain ⟨j, hj⟩ : ∃ j : Nat, j = l.length - (k + 1) := ⟨_, rfl⟩
      have hcell : w.cell? ⟨b, off + j, none⟩ = some (.int .u8 (I8 (l.getD j 0))) := hc j (by omega)
      have e : (l.length : Int) - 1 - k = (j : Int) := by omega
      rw [e]
      have jlt : (j : Int) < (l.length : Int) := by omega
      have HV := Lib.hid (val_next l k hlt)
      have HJ := Lib.hid hj; clear hj e hc
      generalize hx : l.getD j 0 = x at hcell
      have HX := Lib.hid hx; clear hx
      go_wp2_with fail
      go_round
      case rel =>
        refine ⟨k + 1, by omega, congrArg (Value.int .i64) (by have := HJ.out; omega), U_congr ?_, U_congr ?_⟩
        · rw [HV.out, ← HJ.out, HX.out, Nat.mul_comm, Nat.add_comm]
        · exact (Nat.pow_succ 256 k).symm
      case measure => have := HJ.out; simp [intOf] <;> omega
    · have hkl : k = l.length := by omega
      have HK := Lib.hid (show be (l.drop (l.length - k)) = be l by rw [hkl]; simp)
      clear hkl
      go_wp2_with fail
      go_ret
      exact ⟨ret_eq (U_congr HK.out), rfl⟩

theorem copy_any (a : Option Addr) (cap : Nat) (l : List UInt8) (w : World) (hl : l.length ≤ 140737488351300) (hb : Bytes w a l) :
    Calls Tryd.prog 38 #[.slice a l.length cap] w fun e w' => ∃ v, e = .returned v ∧ Fresh w.heap.size w w' v l := by
  go_enter Tryd.func38, Tryd.ntmps38
  go_wp2_with fail
  go_loopw [3, 4] (fun v i wr => ∃ k : Nat, k ≤ l.length ∧ i = .int .i64 k ∧ wr.ownsRow w.heap.size 5 1 v (l.take k).length ((l.take k).map B8) ∧ v ≠ .slice none 0 0 ∧ Fr [] w wr) (fun _ i _ => l.length - (intOf i).toNat)
  case atStart => exact ⟨0, by omega, rfl, own_empty w 5, by simp, (Fr.refl _ _).alloc _⟩
  case round =>
    obtain ⟨k, hk, rfl, hown, hnil, hf⟩ := hrel
    have HNIL := Lib.hid hnil; clear hnil
    by_cases hlt : k < l.length
    · obtain ⟨b, off, rfl, hc⟩ := hb.at (by omega)
      have hcell : wr.cell? ⟨b, off + k, none⟩ = some (.int .u8 (I8 (l.getD k 0))) := hf.cell (hc k hlt) (by simp)
      clear hc
      obtain ⟨x, hx⟩ : ∃ x, x = l.getD k 0 := ⟨_, rfl⟩
      rw [← hx] at hcell
      have HX := Lib.hid hx; clear hx
      have HT := Lib.hid (show (l.take k).length = k by simp; omega)
      go_wp2_with (at_builtin; refine wpList_apB _ rfl _ _ 23 rfl w.heap.size 5 Tryd.underlying23 info8 u3 (l.take k) rfl (own_alloc hown _) (some ⟨wr.heap.size, 0, none⟩) 1 1 [x] rfl rfl (Bytes.one x rfl) (fun h => by cases h) (by rw [HT.out]; omega) (by have := hf.size; simp; omega) ?_; intro v' w1 happ; have HA := Lib.hid happ; clear happ)
      go_roundw
      case rel =>
        have ha := HA.out
        refine ⟨k + 1, by omega, by go_num, ?_, ?_, ?_⟩
        · have e : l.take (k + 1) = l.take k ++ [x] := by rw [take_snoc l k hlt, HX.out]; simp [List.getD, hlt]
          rw [e]; exact ha.own
        · intro e; have := (ha.nil.1 e).2; simp at this
        · exact (hf.alloc _).next ha.fr (by intro i hi hlt2; have := own_lt hown (g := i) (by simpa using hi); omega)
      case measure => simp [intOf] <;> omega
    · have e : l.take k = l := List.take_of_length_le (by omega)
      rw [e] at hown
      clear e
      go_wp2_with fail
      go_ret
      exact ⟨_, rfl, Fresh.mk hown HNIL.out hf⟩

theorem Clone_any (a : Option Addr) (cap : Nat) (l : List UInt8) (w : World) (hl : l.length ≤ 140737488351300) (hc : a = none → cap = 0) (hb : Bytes w a l) :
    Calls Tryd.prog 34 #[.slice a l.length cap] w fun e w' => ∃ v, e = .returned v ∧ Got w.heap.size w w' v l := by
  have qT : ∀ (w : World) (a : Option Addr) (n c n' c' : Nat), (binOp .eql 23 (.slice a n c) (.slice none n' c')).run Tryd.prog w = .ok (.bool a.isNone) w := fun w a n c n' c' => Lib.run_eql_slice_nil w _ _ a n c n' c' Tryd.underlying23
  cases a with
  | none =>
    have hl0 : l = [] := by
      rcases hb with h | ⟨_, _, h, _⟩
      · exact h
      · cases h
    subst hl0
    go_enter Tryd.func34, Tryd.ntmps34
    go_wp2
    go_ret
    exact ⟨_, rfl, World.ownsRow_nil _ _ _ _, Fr.refl _ _⟩
  | some ad =>
    have hb2 : Bytes (w.alloc (.cells #[] 5)) (some ad) l := hb.keep ((Fr.refl _ _).alloc _)
    clear hc
    go_enter Tryd.func34, Tryd.ntmps34
    go_wp2_with (at_builtin; refine wpList_apB _ rfl _ _ 23 rfl w.heap.size 5 Tryd.underlying23 info8 (.slice (some ⟨w.heap.size, 0, none⟩) 0 0) [] rfl (own_empty w 5) (some ad) _ cap l rfl rfl hb2 (fun h => by cases h) (by simp; omega) (by simp) ?_; intro v' w1 happ; have HA := Lib.hid happ; clear happ)
    go_ret
    have ha := HA.out
    exact ⟨v', rfl, ha.own, ((Fr.refl _ _).alloc _).next ha.fr (by intro i hi hlt; simp [Value.ownBlock] at hi; omega)⟩

/-- what 'byte(n >> s)' gives -/
theorem lay_byte (n wd k j : Nat) (hn : n < 18446744073709551616) (hj : j = wd - 1 - k) (hk : k < wd) : UInt8.ofNat (n % 18446744073709551616 / 2 ^ (8 * j)) = (by8 wd n).getD k 0 := by
  rw [by8_get wd n k hk, Nat.mod_eq_of_lt hn, Nat.pow_mul, ← hj]

set_option maxHeartbeats 400000 in
/-- a number is laid behind what the call owns -/
theorem lay_own (B : Nat) (v : Value) (xs : List UInt8) (wd n : Nat) (w : World) (hwd : 1 ≤ wd ∧ wd ≤ 8) (hn : n < 18446744073709551616) (hx : xs.length ≤ 140737488351400) (hown : w.ownsRow B 5 1 v xs.length (xs.map B8)) (hB : B ≤ w.heap.size) :
    Calls Tryd.prog 40 #[v, .int .i64 wd, .int .u64 (U n)] w fun e w' => ∃ v', e = .returned v' ∧ w'.ownsRow B 5 1 v' (xs ++ by8 wd n).length ((xs ++ by8 wd n).map B8) ∧ Fr v.ownBlock.toList w w' ∧ (v'.ownBlock = v.ownBlock ∨ ∃ g, v'.ownBlock = some g ∧ w.heap.size ≤ g) := by
  obtain ⟨hw1, hw2⟩ := hwd
  go_enter Tryd.func40, Tryd.ntmps40
  go_wp2_with fail
  go_loopw [0, 7] (fun b s wr => ∃ k : Nat, k ≤ wd ∧ s = .int .i64 (8 * ((wd : Int) - 1) - 8 * k) ∧ wr.ownsRow B 5 1 b (xs ++ (by8 wd n).take k).length ((xs ++ (by8 wd n).take k).map B8) ∧ Fr v.ownBlock.toList w wr ∧ (b.ownBlock = v.ownBlock ∨ ∃ g, b.ownBlock = some g ∧ w.heap.size ≤ g)) (fun _ s _ => (intOf s + 8).toNat)
  case atStart => exact ⟨0, by omega, by simp, by simpa using hown, Fr.refl _ _, .inl rfl⟩
  case round =>
    obtain ⟨k, hk, rfl, hown2, hf, hblk⟩ := hrel
    have HB := Lib.hid hblk; clear hblk
    by_cases hlt : k < wd
    · obtain ⟨j, hj⟩ : ∃ j : Nat, j = wd - 1 - k := ⟨_, rfl⟩
      have e : 8 * ((wd : Int) - 1) - 8 * k = ((8 * j : Nat) : Int) := by omega
      rw [e]
      have hsz := hf.size
      have hj8 : 8 * j ≤ 64 := by omega
      have hlb := lay_byte n wd k j hn hj hlt
      have hsh : ∀ yk, Op.shift .shr .u64 (U n) yk ((8 * j : Nat) : Int) = pure (.int .u64 (U (n % 18446744073709551616 / 2 ^ (8 * j)))) := fun yk => shrU_op n yk (8 * j) hj8
      have HT := Lib.hid (show (xs ++ (by8 wd n).take k).length = xs.length + k by rw [List.length_append, List.length_take, by8_length]; omega)
      have HJ := Lib.hid hj; clear hj e
      generalize hx2 : (by8 wd n).getD k 0 = x at hlb
      have HX := Lib.hid hx2; clear hx2
      go_wp2_with (at_builtin; refine wpList_apB _ rfl _ _ 23 rfl B 5 Tryd.underlying23 info8 u0 (xs ++ (by8 wd n).take k) rfl (own_alloc hown2 _) (some ⟨wr.heap.size, 0, none⟩) 1 1 [x] rfl rfl (Bytes.one x rfl) (fun h => by cases h) (by rw [HT.out]; omega) (by simp; omega) ?_; intro v' w1 happ; have HA := Lib.hid happ; clear happ)
      go_roundw
      case rel =>
        have ha := HA.out
        have e : xs ++ (by8 wd n).take (k + 1) = xs ++ (by8 wd n).take k ++ [x] := by
          rw [take_snoc _ k (by rw [by8_length]; exact hlt), ← HX.out, List.append_assoc]
          simp [List.getD, by8_length, hlt]
        refine ⟨k + 1, by omega, congrArg (Value.int .i64) (by have := HJ.out; omega), by rw [e]; exact ha.own, (hf.alloc _).next ha.fr ?_, ?_⟩
        · intro i hi hlt2
          rcases HB.out with h | ⟨g, h, hg⟩
          · rw [h] at hi; exact hi
          · rw [h] at hi; simp at hi; omega
        · rcases ha.blk with h | ⟨g, h, hg⟩
          · rw [h]; exact HB.out
          · exact .inr ⟨g, h, by simp at hg; omega⟩
      case measure => have := HJ.out; simp [intOf] <;> omega
    · have e : (by8 wd n).take k = by8 wd n := List.take_of_length_le (by rw [by8_length]; omega)
      rw [e] at hown2
      have e2 : 8 * ((wd : Int) - 1) - 8 * k = -8 := by omega
      rw [e2]
      clear e e2
      go_wp2_with fail
      go_ret
      exact ⟨_, rfl, hown2, hf, HB.out⟩

set_option maxHeartbeats 400000 in
/-- a number is laid into an own block -/
theorem lay_room (B g cap at_ wd n : Nat) (ys : List UInt8) (w : World) (hwd : 1 ≤ wd ∧ wd ≤ 8) (hn : n < 18446744073709551616) (ha : at_ + wd ≤ ys.length) (hy : ys.length ≤ 140737488351300) (hown : w.ownsRow B 5 1 (.slice (some ⟨g, 0, none⟩) ys.length cap) ys.length (ys.map B8)) :
    Calls Tryd.prog 40 #[.slice (some ⟨g, 0, none⟩) at_ (at_ + wd), .int .i64 wd, .int .u64 (U n)] w fun e w' => e = .returned (.slice (some ⟨g, 0, none⟩) (at_ + wd) (at_ + wd)) ∧ w'.ownsRow B 5 1 (.slice (some ⟨g, 0, none⟩) ys.length cap) ys.length ((put ys at_ (by8 wd n)).map B8) ∧ Fr [g] w w' := by
  obtain ⟨hw1, hw2⟩ := hwd
  go_enter Tryd.func40, Tryd.ntmps40
  go_wp2_with fail
  go_loopw [0, 7] (fun b s wr => ∃ k : Nat, k ≤ wd ∧ s = .int .i64 (8 * ((wd : Int) - 1) - 8 * k) ∧ b = .slice (some ⟨g, 0, none⟩) (at_ + k) (at_ + wd) ∧ wr.ownsRow B 5 1 (.slice (some ⟨g, 0, none⟩) ys.length cap) ys.length ((put ys at_ ((by8 wd n).take k)).map B8) ∧ Fr [g] w wr) (fun _ s _ => (intOf s + 8).toNat)
  case atStart => exact ⟨0, by omega, by simp, rfl, by simpa [put] using hown, Fr.refl _ _⟩
  case round =>
    obtain ⟨k, hk, rfl, rfl, hown2, hf⟩ := hrel
    by_cases hlt : k < wd
    · obtain ⟨j, hj⟩ : ∃ j : Nat, j = wd - 1 - k := ⟨_, rfl⟩
      have e : 8 * ((wd : Int) - 1) - 8 * k = ((8 * j : Nat) : Int) := by omega
      rw [e]
      have hj8 : 8 * j ≤ 64 := by omega
      have hlb := lay_byte n wd k j hn hj hlt
      have hsh : ∀ yk, Op.shift .shr .u64 (U n) yk ((8 * j : Nat) : Int) = pure (.int .u64 (U (n % 18446744073709551616 / 2 ^ (8 * j)))) := fun yk => shrU_op n yk (8 * j) hj8
      have hpl : (put ys at_ ((by8 wd n).take k)).length = ys.length := put_length _ _ _ (by rw [List.length_take, by8_length]; omega)
      have ho3 : wr.ownsRow B 5 1 (.slice (some ⟨g, 0, none⟩) (put ys at_ ((by8 wd n).take k)).length cap) (put ys at_ ((by8 wd n).take k)).length ((put ys at_ ((by8 wd n).take k)).map B8) := by rw [hpl]; exact hown2
      have HPL := Lib.hid hpl; clear hpl hown2
      have HJ := Lib.hid hj; clear hj e
      generalize hx2 : (by8 wd n).getD k 0 = x at hlb
      have HX := Lib.hid hx2; clear hx2
      go_wp2_with (at_builtin; refine wpList_layB _ rfl _ _ 23 rfl B 5 Tryd.underlying23 info8 g cap (at_ + k) (at_ + wd) (put ys at_ ((by8 wd n).take k)) rfl (own_alloc ho3 _) (by rw [HPL.out]; omega) (by omega) ⟨wr.heap.size, 0, none⟩ 1 x rfl (Bytes.one x rfl) ?_; intro w1 h1 h2; have H1 := Lib.hid h1; have H2 := Lib.hid h2; clear h1 h2)
      go_roundw
      case rel =>
        refine ⟨k + 1, by omega, congrArg (Value.int .i64) (by have := HJ.out; omega), rfl, ?_, (hf.alloc _).next H2.out (by simp)⟩
        have h := H1.out
        rw [HPL.out, ← HX.out, put_next _ _ _ _ (by rw [by8_length]; exact hlt) (by rw [by8_length]; exact ha)] at h
        exact h
      case measure => have := HJ.out; simp [intOf] <;> omega
    · have e : (by8 wd n).take k = by8 wd n := List.take_of_length_le (by rw [by8_length]; omega)
      rw [e] at hown2
      have e2 : 8 * ((wd : Int) - 1) - 8 * k = -8 := by omega
      rw [e2, show at_ + k = at_ + wd by omega]
      clear e e2
      go_wp2_with fail
      go_ret
      exact ⟨rfl, hown2, hf⟩

/-! room, Get, Set -/
theorem room_no (a : Option Addr) (c n : Nat) (p z : Int) (w : World) (h : isWd z = false ∨ p < 0) :
    Calls Tryd.prog 46 #[.slice a n c, .int .i64 p, .int .i64 z] w fun e w' => e = .returned (.int .i64 2) ∧ w = w' := by
  by_cases hz : isWd z = false
  · go_enter Tryd.func46, Tryd.ntmps46
    go_wp2_with fail
    refine (isWidth_any z w).mono ?_
    rintro e w' ⟨rfl, rfl⟩
    go_wp2_with fail
    go_ret
    exact ⟨rfl, rfl⟩
  · have hz : isWd z = true := by simpa using hz
    have hp : p < 0 := by simpa [hz] using h
    clear h
    go_enter Tryd.func46, Tryd.ntmps46
    go_wp2_with fail
    refine (isWidth_any z w).mono ?_
    rintro e w' ⟨rfl, rfl⟩
    go_wp2_with fail
    go_ret
    exact ⟨rfl, rfl⟩
theorem room_short (a : Option Addr) (c n wd : Nat) (p : Int) (w : World) (hn : n ≤ 140737488351300) (hw : Wd wd) (hp : 0 ≤ p) (hp2 : p ≤ 9223372036854775807) (h : (n : Int) < p + wd) :
    Calls Tryd.prog 46 #[.slice a n c, .int .i64 p, .int .i64 wd] w fun e w' => e = .returned (.int .i64 10) ∧ w = w' := by
  have hz := isWd_nat wd hw
  have hle := hw.le
  have h0 : ¬ p < 0 := by omega
  go_enter Tryd.func46, Tryd.ntmps46
  go_wp2_with fail
  refine (isWidth_any wd w).mono ?_
  rintro e w' ⟨rfl, rfl⟩
  go_wp2_with fail
  go_ret
  exact ⟨rfl, rfl⟩
theorem room_yes (a : Option Addr) (c n wd p : Nat) (w : World) (hn : n ≤ 140737488351300) (hw : Wd wd) (h : p + wd ≤ n) :
    Calls Tryd.prog 46 #[.slice a n c, .int .i64 p, .int .i64 wd] w fun e w' => e = .returned (.int .i64 0) ∧ w = w' := by
  have hz := isWd_nat wd hw
  have hle := hw.le
  have h0 : ¬ (p : Int) < 0 := by omega
  go_enter Tryd.func46, Tryd.ntmps46
  go_wp2_with fail
  refine (isWidth_any wd w).mono ?_
  rintro e w' ⟨rfl, rfl⟩
  go_wp2_with fail
  go_ret
  exact ⟨rfl, rfl⟩
end Go.Proofs.YtkgfdcagninphaaDoor
