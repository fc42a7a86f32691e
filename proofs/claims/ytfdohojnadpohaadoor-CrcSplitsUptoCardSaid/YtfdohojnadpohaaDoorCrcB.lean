/- The walks of Combine, the program's by matrices and the document's by products. -/
import Derived.Test.YtfdohojnadpohaaDoorCrcA
namespace Go.Proofs.YtfdohojnadpohaaDoor
open Go.RowKit
attribute [local go_sem] bits_not32 bits_xor32 bits_xor32_ones bits_xor32_dvs wrap_I8 bits_and1 one_eq1 one_ne shr_pow bt_shr I32_ne0
attribute [local go_sem ↓] shr_I32_4 shr_I32_1 shr_I32_31 shl_I32_1

/-- a matrix of 32 numbers lies in block g -/
def Mat (w : World) (g : Nat) (m : Nat → BitVec 32) : Prop := ∀ j, j < 32 → w.cell? ⟨g, j, none⟩ = some (.int .u32 (I32 (m j)))

theorem lin_t {m : Nat → BitVec 32} {v : BitVec 32} {k : Nat} (h : bt v k = true) : P.lin m v k ^^^ m k = P.lin m v (k + 1) := by
  show _ = P.lin m v k ^^^ (if v.getLsbD k then m k else 0#32)
  rw [← bt_def, h]; rfl
theorem lin_f {m : Nat → BitVec 32} {v : BitVec 32} {k : Nat} (h : bt v k = false) : P.lin m v k = P.lin m v (k + 1) := by
  show _ = P.lin m v k ^^^ (if v.getLsbD k then m k else 0#32)
  rw [← bt_def, h]; simp
theorem times_any (g : Nat) (m : Nat → BitVec 32) (v : BitVec 32) (w : World) (hm : Mat w g m) :
    Calls Tryd.prog 24 #[.pointer (some ⟨g, 0, none⟩), .int .u32 (I32 v)] w fun e w' => e = .returned (.int .u32 (I32 (P.lin m v 32))) ∧ w = w' := by
  go_enter Tryd.func24, Tryd.ntmps24
  go_wp2
  go_loop [1, 4, 5] (fun x o i => ∃ k : Nat, k ≤ 32 ∧ i = .int .i64 k ∧ o = .int .u32 (I32 (P.lin m v k)) ∧ x = .int .u32 (I32 (v >>> k))) (fun _ _ i => 32 - (intOf i).toNat)
  case atStart => exact ⟨0, by omega, rfl, u0, by simp⟩
  case round =>
    obtain ⟨k, hk, rfl, rfl, rfl⟩ := hrel
    by_cases hz : v >>> k = 0#32
    · have hne : (I32 (v >>> k) != 0) = false := by rw [I32_ne0, hz]; rfl
      have HD := Lib.hid (P.lin_done m v k hk hz)
      clear hz
      go_wp2
      go_ret
      exact ⟨by rw [← HD.out]; rfl, rfl⟩
    · have hlt : k < 32 := by
        rcases Nat.lt_or_ge k 32 with h | h
        · exact h
        · exact absurd (BitVec.ushiftRight_eq_zero h) hz
      have hne : (I32 (v >>> k) != 0) = true := by rw [I32_ne0]; exact bne_iff_ne.2 hz
      have hc := hm k hlt
      clear hz
      go_wp2
      · go_round
        case rel => exact ⟨k + 1, by omega, by go_num, by rw [lin_t ‹_›], by rw [BitVec.shiftRight_add]⟩
        case measure => simp [intOf] <;> omega
      · go_round
        case rel => exact ⟨k + 1, by omega, by go_num, by rw [lin_f ‹_›], by rw [BitVec.shiftRight_add]⟩
        case measure => simp [intOf] <;> omega

def sq (m : Nat → BitVec 32) (i : Nat) : BitVec 32 := P.lin m (m i) 32
def row (m : Nat → BitVec 32) (n k : Nat) : List Value := (List.range n).map fun j => if j < k then .int .u32 (I32 (m j)) else .int .u32 0
theorem row_get (m : Nat → BitVec 32) (n k j : Nat) (h : j < n) : (row m n k)[j]? = some (if j < k then .int .u32 (I32 (m j)) else .int .u32 0) := by
  simp [row, h]
theorem row_next (m : Nat → BitVec 32) (n k : Nat) (h : k < n) : (row m n k).toArray.setIfInBounds k (.int .u32 (I32 (m k))) = (row m n (k + 1)).toArray := by
  apply Array.toList_inj.1
  rw [Array.toList_setIfInBounds]
  apply List.ext_getElem?
  intro j
  rw [List.getElem?_set]
  by_cases hj : j < n
  · rw [row_get _ _ _ _ hj, row_get _ _ _ _ hj]
    by_cases e : k = j
    · subst e; simp [row, h]
    · rw [if_neg e]
      by_cases h2 : j < k
      · rw [if_pos h2, if_pos (by omega)]
      · rw [if_neg h2, if_neg (by omega)]
  · have : k ≠ j := by omega
    rw [if_neg this]
    simp [row, hj]
theorem row_one (m : Nat → BitVec 32) (n k : Nat) : (row m n k).toArray.all (·.oneCell') = true := by
  rw [List.all_toArray, List.all_eq_true]
  intro x hx
  obtain ⟨j, _, rfl⟩ := List.mem_map.1 hx
  split <;> rfl
theorem row_size (m : Nat → BitVec 32) (n k : Nat) : (row m n k).toArray.size = n := by simp [row]
theorem row_cell {w : World} {g t : Nat} {m : Nat → BitVec 32} {n k : Nat} (h : w.heap[g]? = some (.cells (row m n k).toArray t (0, 0))) (j : Nat) (hj : j < n) : w.cell? ⟨g, j, none⟩ = some (if j < k then .int .u32 (I32 (m j)) else .int .u32 0) := by
  rw [cell_of_row w g j _ t (0, 0) h, List.getElem?_toArray, row_get _ _ _ _ hj]
theorem Mat.of_row {w : World} {g t : Nat} {m : Nat → BitVec 32} (h : w.heap[g]? = some (.cells (row m 32 32).toArray t (0, 0))) : Mat w g m := fun j hj => by
  rw [row_cell h j hj, if_pos hj]
theorem Mat.keep {w w' : World} {g : Nat} {m : Nat → BitVec 32} (h : Mat w g m) (hf : Fr [] w w') : Mat w' g m := fun j hj => hf.cell (h j hj) (by simp)
theorem Mat.drew {w : World} {g : Nat} {m : Nat → BitVec 32} (h : Mat w g m) : Mat w.drew g m := h
theorem Mat.congr {w : World} {g : Nat} {m m' : Nat → BitVec 32} (h : Mat w g m) (he : ∀ j, j < 32 → m j = m' j) : Mat w g m' := fun j hj => by rw [h j hj, he j hj]

theorem size48 : (Tryd.prog.info? 48).map (·.size) = some 32 := by kernel_rfl
set_option maxHeartbeats 800000 in
set_option maxRecDepth 100000 in
theorem square_any (g : Nat) (m : Nat → BitVec 32) (w : World) (hm : Mat w g m) :
    Calls Tryd.prog 23 #[.pointer (some ⟨g, 0, none⟩)] w fun e w' => e = .returned (.agg (row (sq m) 32 32).toArray) ∧ Fr [] w w' := by
  have hz : ∀ x, some (Obj.cells x 48 (0, 0)) = some (Obj.cells (row (sq m) 32 0).toArray 48 (0, 0)) → (w.alloc (.cells x 48)).heap[w.heap.size]? = some (.cells (row (sq m) 32 0).toArray 48 (0, 0)) := fun x hx => by rw [heap_alloc_new]; exact hx
  go_enter Tryd.func23, Tryd.ntmps23
  go_wp2_with fail
  go_loopw [4] (fun i wr => ∃ k : Nat, k ≤ 32 ∧ i = .int .i64 k ∧ Fr [] w wr ∧ wr.heap[w.heap.size]? = some (.cells (row (sq m) 32 k).toArray 48 (0, 0))) (fun i _ => 32 - (intOf i).toNat)
  case atStart => exact ⟨0, by omega, rfl, (Fr.refl _ _).alloc _, hz _ rfl⟩
  case round =>
    obtain ⟨k, hk, rfl, hf, hb⟩ := hrel
    by_cases hlt : k < 32
    · have hmk : wr.cell? ⟨g, k, none⟩ = some (.int .u32 (I32 (m k))) := hm.keep hf k hlt
      have hold : wr.cell? ⟨w.heap.size, k, none⟩ = some (.int .u32 0) := by rw [row_cell hb k hlt, if_neg (by omega)]
      have hfz : wr.frozen? ⟨w.heap.size, k, none⟩ = false := frozen_of_row wr _ k _ _ hb
      have HB := Lib.hid hb; clear hb
      have HZ := Lib.hid hz; clear hz
      go_wp2_with fail
      refine (times_any g m (m k) wr (hm.keep hf)).mono ?_
      rintro e w' ⟨rfl, rfl⟩
      go_wp2
      go_roundw
      case rel =>
        refine ⟨k + 1, by omega, by go_num, hf.setCell (fun h => absurd h (by simp)) _, ?_⟩
        rw [heap_setCell_same wr _ k _ _ _ HB.out]
        show some (Obj.cells ((row (sq m) 32 k).toArray.setIfInBounds k (.int .u32 (I32 (sq m k)))) _ _) = _
        rw [row_next _ _ _ hlt]
      case measure => simp [intOf] <;> omega
    · have : k = 32 := by omega
      subst this
      have HZ := Lib.hid hz; clear hz
      have hk1 : (row (sq m) 32 32).toArray.all (·.oneCell') = true := row_one _ _ _
      have HK := Lib.hid hk1; clear hk1
      go_wp2_with (first | (with_reducible refine wpList_load_row rfl 48 _ rfl _ rfl _ _ _ _ hb Tryd.underlying48 rfl (by rw [size48, row_size]) ?_) | (with_reducible refine wpList_store_row rfl 48 _ _ rfl w.heap.size (row (sq m) 32 32).toArray rfl rfl _ _ hb (by rw [size48, row_size]) rfl HK.out ?_))
      rw [setRow_self wr _ _ _ _ hb]
      exact bodyPost_ret (results_cell_row rfl _ _ w.heap.size _ _ _ _ rfl hb Tryd.underlying48 rfl (by rw [size48, row_size])) rfl ⟨rfl, hf⟩

theorem row_congr {m m' : Nat → BitVec 32} (n k : Nat) (h : ∀ j, j < n → m j = m' j) : row m n k = row m' n k := by
  apply List.ext_getElem?
  intro j
  by_cases hj : j < n
  · rw [row_get _ _ _ _ hj, row_get _ _ _ _ hj, h j hj]
  · simp [row, hj]
/-- the matrix of p steps at once -/
def pw (p : Nat) (j : Nat) : BitVec 32 := P.it P.s1 p (P.unit j)
theorem sq_pw (p : Nat) (j : Nat) (h : j < 32) : sq (pw p) j = pw (2 * p) j := by
  unfold sq
  rw [P.square_eq (P.lin_s1.it p) (pw p) (fun i _ => rfl) j h]
  unfold pw
  rw [P.it_two]
theorem row_sq (p : Nat) : row (sq (pw p)) 32 32 = row (pw (2 * p)) 32 32 := row_congr 32 32 fun j h => sq_pw p j h
theorem row_m0 : row P.m0 32 32 = row (pw 1) 32 32 := row_congr 32 32 fun j h => P.m0_eq j h
theorem lin_pw (p : Nat) (v : BitVec 32) : P.lin (pw p) v 32 = P.it P.s1 p v := P.lin_of (P.lin_s1.it p) v

set_option maxHeartbeats 1600000 in
set_option maxRecDepth 100000 in
theorem combine_any (x y : BitVec 32) (n : Int) (w : World) (_h1 : -9223372036854775808 ≤ n) (h2 : n ≤ 9223372036854775807) :
    Calls Tryd.prog 20 #[.int .u32 (I32 x), .int .u32 (I32 y), .int .i64 n] w fun e w' => e = .returned (.int .u32 (I32 (P.combine x y n.toNat))) ∧ Fr [] w w' := by
  have hz : ∀ c, some (Obj.cells c 48 (0, 0)) = some (Obj.cells (row P.m0 32 1).toArray 48 (0, 0)) → (w.alloc (.cells c 48)).heap[w.heap.size]? = some (.cells (row P.m0 32 1).toArray 48 (0, 0)) := fun c hx => by rw [heap_alloc_new]; exact hx
  have HZ := Lib.hid hz; clear hz
  go_enter Tryd.func20, Tryd.ntmps20
  go_wp2_with fail
  go_loopw [8] (fun i wr => ∃ k : Nat, 1 ≤ k ∧ k ≤ 32 ∧ i = .int .i64 k ∧ Fr [] w wr ∧ wr.heap[w.heap.size]? = some (.cells (row P.m0 32 k).toArray 48 (0, 0))) (fun i _ => 32 - (intOf i).toNat)
  case atStart => exact ⟨1, by omega, by omega, rfl, (Fr.refl _ _).alloc _, HZ.out _ (by rw [← I32_poly]; rfl)⟩
  case round =>
    obtain ⟨k, hk1, hk, rfl, hf, hb⟩ := hrel
    by_cases hlt : k < 32
    · have hold : wr.cell? ⟨w.heap.size, k, none⟩ = some (.int .u32 0) := by rw [row_cell hb k hlt, if_neg (by omega)]
      have hfz : wr.frozen? ⟨w.heap.size, k, none⟩ = false := frozen_of_row wr _ k _ _ hb
      have HB := Lib.hid hb; clear hb
      go_wp2_with fail
      go_roundw
      case rel =>
        refine ⟨k + 1, by omega, by omega, by go_num, hf.setCell (fun h => absurd h (by simp)) _, ?_⟩
        rw [heap_setCell_same wr _ k _ _ _ HB.out, pow_m0 k hk1 hlt, row_next _ _ _ hlt]
      case measure => simp [intOf] <;> omega
    · have hk32 : k = 32 := by omega
      rw [hk32, row_m0] at hb
      clear hk32 HZ
      go_wp2_with fail
      obtain ⟨w1, hw1⟩ : ∃ w1, w1 = wr := ⟨_, rfl⟩
      rw [← hw1] at hf hb ⊢
      clear hw1
      go_loopw [19] (fun i wr => ∃ j : Nat, j ≤ 3 ∧ i = .int .i64 j ∧ Fr [] w wr ∧ wr.heap[w.heap.size]? = some (.cells (row (pw (2 ^ j)) 32 32).toArray 48 (0, 0))) (fun i _ => 3 - (intOf i).toNat)
      case atStart => exact ⟨0, by omega, rfl, hf, hb⟩
      case round =>
        obtain ⟨j, hj, rfl, hf2, hb2⟩ := hrel
        clear hf hb
        by_cases hjt : j < 3
        · have HB := Lib.hid hb2; clear hb2
          go_wp2_with fail
          refine (square_any w.heap.size (pw (2 ^ j)) _ (Mat.of_row HB.out)).mono ?_
          rintro e w2 ⟨rfl, hf3⟩
          have hb3 := hf3.obj HB.out (by simp)
          go_wp2_with (with_reducible refine wpList_store_row rfl 48 _ _ rfl w.heap.size _ rfl rfl _ _ hb3 (by rw [size48, row_size]) (by rw [row_size, row_size]) (row_one _ _ _) ?_)
          go_roundw
          case rel =>
            refine ⟨j + 1, by omega, by go_num, (hf2.next hf3 (by simp)).setRow (by simp) _, ?_⟩
            rw [setRow_heap _ _ _ _ _ _ hb3, row_sq, Nat.pow_succ, Nat.mul_comm]
          case measure => simp [intOf] <;> omega
        · have hj3 : j = 3 := by omega
          rw [hj3] at hb2
          clear hj3
          go_wp2_with fail
          obtain ⟨w1, hw1⟩ : ∃ w1, w1 = wr := ⟨_, rfl⟩
          rw [← hw1] at hf2 hb2 ⊢
          clear hw1
          go_loopw [0, 2] (fun c i wr => ∃ (i' : Int) (r p : Nat), i = .int .i64 i' ∧ i' ≤ 9223372036854775807 ∧ n.toNat = r + p * i'.toNat ∧ c = .int .u32 (I32 (P.it P.s1 (8 * r) x)) ∧ Fr [] w wr ∧ wr.heap[w.heap.size]? = some (.cells (row (pw (8 * p)) 32 32).toArray 48 (0, 0))) (fun _ i _ => (intOf i).toNat)
          case atStart => exact ⟨n, 0, 1, rfl, h2, by omega, rfl, hf2, hb2⟩
          case round =>
            obtain ⟨i, r, p, rfl, hi, hn, rfl, hf4, hb4⟩ := hrel
            have HN := Lib.hid hn
            clear hf2 hb2 hn
            by_cases hpos : 0 < i
            · have hand := and1_i64 i (by omega) hi
              have HB := Lib.hid hb4; clear hb4
              by_cases hodd : i.toNat % 2 = 1
              · rw [decide_eq_true hodd] at hand
                have HO := Lib.hid hodd; clear hodd
                go_wp2_with fail
                refine (times_any w.heap.size (pw (8 * p)) _ wr (Mat.of_row HB.out)).mono ?_
                rintro e w2 ⟨rfl, rfl⟩
                go_wp2_with fail
                refine (square_any w.heap.size (pw (8 * p)) _ (Mat.of_row HB.out)).mono ?_
                rintro e w2 ⟨rfl, hf3⟩
                have hb3 := hf3.obj HB.out (by simp)
                go_wp2_with (with_reducible refine wpList_store_row rfl 48 _ _ rfl w.heap.size _ rfl rfl _ _ hb3 (by rw [size48, row_size]) (by rw [row_size, row_size]) (row_one _ _ _) ?_)
                go_roundw
                case rel =>
                  refine ⟨_, r + p, 2 * p, rfl, by omega, ?_, by rw [lin_pw, ← P.it_add, ← Nat.mul_add], (hf4.next hf3 (by simp)).setRow (by simp) _, ?_⟩
                  · have := HN.out
                    have e2 : i.toNat = 2 * (i / 2).toNat + i.toNat % 2 := by omega
                    have e3 := HO.out
                    rw [this, e2, e3]
                    simp only [Nat.mul_add, Nat.add_zero, Nat.mul_one, Nat.mul_zero]
                    rw [← Nat.mul_assoc, Nat.mul_comm p 2]
                    all_goals omega
                  · rw [setRow_heap _ _ _ _ _ _ hb3, row_sq, show 2 * (8 * p) = 8 * (2 * p) by omega]
                case measure => simp [intOf] <;> omega
              · rw [decide_eq_false hodd] at hand
                have HO := Lib.hid (show i.toNat % 2 = 0 by omega); clear hodd
                go_wp2_with fail
                refine (square_any w.heap.size (pw (8 * p)) _ (Mat.of_row HB.out)).mono ?_
                rintro e w2 ⟨rfl, hf3⟩
                have hb3 := hf3.obj HB.out (by simp)
                go_wp2_with (with_reducible refine wpList_store_row rfl 48 _ _ rfl w.heap.size _ rfl rfl _ _ hb3 (by rw [size48, row_size]) (by rw [row_size, row_size]) (row_one _ _ _) ?_)
                go_roundw
                case rel =>
                  refine ⟨_, r, 2 * p, rfl, by omega, ?_, rfl, (hf4.next hf3 (by simp)).setRow (by simp) _, ?_⟩
                  · have := HN.out
                    have e2 : i.toNat = 2 * (i / 2).toNat + i.toNat % 2 := by omega
                    have e3 := HO.out
                    rw [this, e2, e3]
                    simp only [Nat.mul_add, Nat.add_zero, Nat.mul_one, Nat.mul_zero]
                    rw [← Nat.mul_assoc, Nat.mul_comm p 2]
                    all_goals omega
                  · rw [setRow_heap _ _ _ _ _ _ hb3, row_sq, show 2 * (8 * p) = 8 * (2 * p) by omega]
                case measure => simp [intOf] <;> omega
            · go_wp2_with fail
              go_ret
              refine ⟨?_, hf4⟩
              have h0 : i.toNat = 0 := by omega
              have := HN.out
              rw [h0, Nat.mul_zero, Nat.add_zero] at this
              rw [← this]
              rfl

set_option maxHeartbeats 800000 in
theorem refcombine_any (x y : BitVec 32) (n : Int) (w : World) (_h1 : -9223372036854775808 ≤ n) (h2 : n ≤ 9223372036854775807) :
    Calls Tryd.prog 21 #[.int .u32 (I32 x), .int .u32 (I32 y), .int .i64 n] w fun e w' => e = .returned (.int .u32 (I32 (P.combine x y n.toNat))) ∧ w = w' := by
  go_enter Tryd.func21, Tryd.ntmps21
  go_wp2_with fail
  refine (turned_any _ w).mono ?_
  rintro e w' ⟨rfl, rfl⟩
  go_wp2_with fail
  go_loop [2, 7, 8] (fun i s q => ∃ (i' : Int) (r p : Nat), i = .int .i64 i' ∧ i' ≤ 9223372036854775807 ∧ n.toNat = r + p * i'.toNat ∧ s = .int .u32 (I32 (P.it P.mulX (8 * p) 1#32)) ∧ q = .int .u32 (I32 (P.it P.mulX (8 * r) (P.rv x)))) (fun i _ _ => (intOf i).toNat)
  case atStart => exact ⟨n, 0, 1, rfl, h2, by omega, by rw [← I32_256, ← P.pow8], rfl⟩
  case round =>
    obtain ⟨i, r, p, rfl, hi, hn, rfl, rfl⟩ := hrel
    have HN := Lib.hid hn
    clear hn
    by_cases hpos : 0 < i
    · by_cases hodd : i % 2 = 1
      · have hrem : (i % 2 == 1) = true := beq_iff_eq.2 hodd
        have HO := Lib.hid (show i.toNat % 2 = 1 by omega); clear hodd
        go_wp2_with fail
        refine (product_any _ _ w).mono ?_
        rintro e w' ⟨rfl, rfl⟩
        go_wp2_with fail
        refine (product_any _ _ w).mono ?_
        rintro e w' ⟨rfl, rfl⟩
        go_wp2_with fail
        go_round
        case rel =>
          refine ⟨_, r + p, 2 * p, rfl, by omega, ?_, by rw [P.product_sq, show 2 * (8 * p) = 8 * (2 * p) by omega], by rw [P.product_pow, ← P.it_add, ← Nat.mul_add]⟩
          have := HN.out
          have e2 : i.toNat = 2 * (i / 2).toNat + i.toNat % 2 := by omega
          have e3 := HO.out
          rw [this, e2, e3]
          simp only [Nat.mul_add, Nat.add_zero, Nat.mul_one, Nat.mul_zero]
          rw [← Nat.mul_assoc, Nat.mul_comm p 2]
          all_goals omega
        case measure => simp [intOf] <;> omega
      · have hrem : (i % 2 == 1) = false := beq_eq_false_iff_ne.2 hodd
        have HO := Lib.hid (show i.toNat % 2 = 0 by omega); clear hodd
        go_wp2_with fail
        refine (product_any _ _ w).mono ?_
        rintro e w' ⟨rfl, rfl⟩
        go_wp2_with fail
        go_round
        case rel =>
          refine ⟨_, r, 2 * p, rfl, by omega, ?_, by rw [P.product_sq, show 2 * (8 * p) = 8 * (2 * p) by omega], rfl⟩
          have := HN.out
          have e2 : i.toNat = 2 * (i / 2).toNat + i.toNat % 2 := by omega
          have e3 := HO.out
          rw [this, e2, e3]
          simp only [Nat.mul_add, Nat.add_zero, Nat.mul_one, Nat.mul_zero]
          rw [← Nat.mul_assoc, Nat.mul_comm p 2]
          all_goals omega
        case measure => simp [intOf] <;> omega
    · go_wp2_with fail
      refine (turned_any _ w).mono ?_
      rintro e w' ⟨rfl, rfl⟩
      go_wp2_with fail
      go_ret
      refine ⟨?_, rfl⟩
      have h0 : i.toNat = 0 := by omega
      have := HN.out
      rw [h0, Nat.mul_zero, Nat.add_zero] at this
      rw [← this, P.rv_it, P.rv_rv]
      rfl
end Go.Proofs.YtfdohojnadpohaaDoor
