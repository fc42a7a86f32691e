/- The walks of CrcThree and CrcBurst, and of the digests. -/
import Derived.Test.YtfdohojnadpohaaDoorCrcD
import Derived.Test.YtfdohojnadpohaaDoorLaw
import Derived.BigQuiet
namespace Go.Proofs.YtfdohojnadpohaaDoor
open Go.RowKit
attribute [local go_sem] bits_xor32 bits_xor8

/-- a cell of own bytes is written -/
theorem Bytes.set {w : World} {g : Nat} {l : List UInt8} (h : Bytes w (some ⟨g, 0, none⟩) l) (k : Nat) (hk : k < l.length) (x : UInt8) : Bytes (w.setCell ⟨g, k, none⟩ (B8 x)) (some ⟨g, 0, none⟩) (l.set k x) := by
  obtain ⟨b, off, e, hc⟩ := h.at (by omega)
  cases e
  refine Or.inr ⟨g, 0, rfl, fun j hj => ?_⟩
  rw [List.length_set] at hj
  by_cases e : k = j
  · subst e
    rw [Nat.zero_add]
    have h0 := hc k hj
    rw [Nat.zero_add] at h0
    rw [World.cell?_setCell_same _ _ _ h0]
    simp [List.getD, hj]
  · rw [World.cell?_setCell_other _ _ _ _ (by intro h; apply e; simpa using h.symm), hc j hj]
    simp [List.getD, List.getElem?_set, e]

/-- of three lists the first with the other two xored in, below k -/
def mix3 (a b c : List UInt8) : Nat → List UInt8
  | 0 => a
  | k + 1 => (mix3 a b c k).set k (a.getD k 0 ^^^ (b.getD k 0 ^^^ c.getD k 0))
theorem mix3_length (a b c : List UInt8) : ∀ k, (mix3 a b c k).length = a.length
  | 0 => rfl
  | k + 1 => by simp [mix3, mix3_length a b c k]
theorem mix3_get (a b c : List UInt8) : ∀ k j, (mix3 a b c k).getD j 0 = if j < k ∧ j < a.length then a.getD j 0 ^^^ (b.getD j 0 ^^^ c.getD j 0) else a.getD j 0
  | 0, j => by simp [mix3]
  | k + 1, j => by
    have ih := mix3_get a b c k j
    by_cases e : k = j
    · subst e
      by_cases hl : k < a.length
      · simp [mix3, List.getD, List.getElem?_set, mix3_length, hl]
      · have h1 : (mix3 a b c (k + 1))[k]? = none := by simp [mix3, mix3_length]; omega
        have h2 : a[k]? = none := by simp; omega
        simp [List.getD, h1, h2, hl]
    · have : (mix3 a b c (k + 1)).getD j 0 = (mix3 a b c k).getD j 0 := by simp [mix3, List.getD, List.getElem?_set, e]
      rw [this, ih]
      by_cases hj : j < k
      · simp [hj, show j < k + 1 by omega]
      · simp [hj, show ¬ j < k + 1 by omega]
theorem mix3_all (a b c : List UInt8) (h1 : a.length = b.length) (h2 : a.length = c.length) : mix3 a b c a.length = P.zx a (P.zx b c) := by
  apply List.ext_getElem?
  intro j
  by_cases hj : j < a.length
  · have e := mix3_get a b c a.length j
    rw [if_pos ⟨hj, hj⟩] at e
    have hm : j < (mix3 a b c a.length).length := by rw [mix3_length]; exact hj
    have e2 : (mix3 a b c a.length)[j]? = some ((mix3 a b c a.length).getD j 0) := by simp [List.getD, hm]
    rw [e2, e]
    simp [P.zx, List.getElem?_zipWith, List.getD, hj, show j < b.length by omega, show j < c.length by omega]
  · rw [List.getElem?_eq_none (by rw [mix3_length]; omega), List.getElem?_eq_none (by simp [P.zx, List.length_zipWith]; omega)]

set_option maxHeartbeats 800000 in
theorem crcThree_walk (a1 a2 a3 : Option Addr) (c1 c2 c3 : Nat) (l1 l2 l3 : List UInt8) (w : World) (hn1 : l1.length ≤ 140737488351232) (hn2 : l2.length ≤ 140737488351232) (hn3 : l3.length ≤ 140737488351232)
    (hc1 : a1 = none → c1 = 0) (hc2 : a2 = none → c2 = 0) (hc3 : a3 = none → c3 = 0) (hb1 : Bytes w a1 l1) (hb2 : Bytes w a2 l2) (hb3 : Bytes w a3 l3) (hnib : Nib w) :
    Calls Tryd.prog 6 #[.slice a1 l1.length c1, .slice a2 l2.length c2, .slice a3 l3.length c3] w fun e w' => e = .returned (.bool true) ∧ Fr [] w w' := by
  have HC1 := Lib.hid hc1; clear hc1
  have HC2 := Lib.hid hc2; clear hc2
  have HC3 := Lib.hid hc3; clear hc3
  by_cases h12 : l1.length = l2.length
  · have e12 : ((l1.length : Int) != (l2.length : Int)) = false := by rw [h12]; simp
    by_cases h13 : l1.length = l3.length
    · have e13 : ((l1.length : Int) != (l3.length : Int)) = false := by rw [h13]; simp
      have H12 := Lib.hid h12; clear h12
      have H13 := Lib.hid h13; clear h13
      go_enter Tryd.func6, Tryd.ntmps6
      go_wp2_with fail
      refine (speaks_any w hnib).mono ?_
      rintro e w1 ⟨rfl, hf1⟩
      go_wp2_with fail
      refine (clone_any a1 _ c1 l1 w1 rfl hn1 HC1.out (hb1.keep hf1)).mono ?_
      rintro e w2 ⟨v, rfl, hfr⟩
      have hfz := hfr.free
      obtain ⟨g, cap', rfl, hg, hlt, hbx, hf2⟩ := hfr.bytes
      have hf2 := hf1.trans hf2
      go_wp2_with fail
      go_loopw [27] (fun i wr => ∃ k : Nat, k ≤ l1.length ∧ i = .int .i64 k ∧ Fr [] w wr ∧ (∀ j, wr.frozen? ⟨g, j, none⟩ = false) ∧ Bytes wr (some ⟨g, 0, none⟩) (mix3 l1 l2 l3 k)) (fun i _ => l1.length - (intOf i).toNat)
      case atStart => exact ⟨0, by omega, rfl, hf2, hfz g rfl, hbx⟩
      case round =>
        obtain ⟨k, hk, rfl, hf, hz, hb⟩ := hrel
        by_cases hlt : k < l1.length
        · obtain ⟨b2, o2, rfl, hx2⟩ := hb2.at (by have := H12.out; omega)
          obtain ⟨b3, o3, rfl, hx3⟩ := hb3.at (by have := H13.out; omega)
          obtain ⟨_, _, hbe, hx1⟩ := hb.at (by rw [mix3_length]; omega)
          cases hbe
          have d2 : wr.cell? ⟨b2, o2 + k, none⟩ = some (.int .u8 (I8 (l2.getD k 0))) := hf.cell (hx2 k (by have := H12.out; omega)) (by simp)
          have d3 : wr.cell? ⟨b3, o3 + k, none⟩ = some (.int .u8 (I8 (l3.getD k 0))) := hf.cell (hx3 k (by have := H13.out; omega)) (by simp)
          have d1 : wr.cell? ⟨g, k, none⟩ = some (.int .u8 (I8 (l1.getD k 0))) := by
            have := hx1 k (by rw [mix3_length]; omega)
            rw [Nat.zero_add, mix3_get, if_neg (by omega)] at this
            exact this
          have dz := hz k
          have i2 : (k : Int) < (l2.length : Int) := by have := H12.out; omega
          have i3 : (k : Int) < (l3.length : Int) := by have := H13.out; omega
          clear hx1 hx2 hx3
          obtain ⟨y1, hy1⟩ : ∃ y, y = l1.getD k 0 := ⟨_, rfl⟩
          rw [← hy1] at d1
          have HY1 := Lib.hid hy1; clear hy1
          obtain ⟨y2, hy2⟩ : ∃ y, y = l2.getD k 0 := ⟨_, rfl⟩
          rw [← hy2] at d2
          have HY2 := Lib.hid hy2; clear hy2
          obtain ⟨y3, hy3⟩ : ∃ y, y = l3.getD k 0 := ⟨_, rfl⟩
          rw [← hy3] at d3
          have HY3 := Lib.hid hy3; clear hy3
          have HZ := Lib.hid hz; clear hz
          go_wp2_with fail
          go_region
          go_wp2
          go_roundw
          case rel =>
            refine ⟨k + 1, by omega, by go_num, (hf.setCell (fun h => absurd h (by have := hf1.size; show ¬ g < _; omega)) _).drew, fun j => (World.frozen?_setCell _ _ _ _).trans (HZ.out j), ?_⟩
            have := hb.set k (by rw [mix3_length]; omega) (l1.getD k 0 ^^^ (l2.getD k 0 ^^^ l3.getD k 0))
            rw [← HY1.out, ← HY2.out, ← HY3.out] at this
            have e : mix3 l1 l2 l3 (k + 1) = (mix3 l1 l2 l3 k).set k (y1 ^^^ (y2 ^^^ y3)) := by rw [HY1.out, HY2.out, HY3.out]; rfl
            rw [e]
            exact this
          case measure => simp [intOf] <;> omega
        · have hkl : mix3 l1 l2 l3 k = P.zx l1 (P.zx l2 l3) := by
            rw [show k = l1.length by omega, mix3_all l1 l2 l3 H12.out H13.out]
          rw [hkl] at hb
          have hlen : (P.zx l1 (P.zx l2 l3)).length = l1.length := by rw [← mix3_all l1 l2 l3 H12.out H13.out, mix3_length]
          have HL := Lib.hid hlen; clear hlen hkl hz
          go_wp2_with fail
          refine (sum_any _ _ _ _ wr HL.out (by omega) hb (hnib.keep hf)).mono ?_
          rintro e w3 ⟨rfl, rfl⟩
          go_wp2_with fail
          refine (clone_any a1 _ c1 l1 wr rfl hn1 HC1.out (hb1.keep hf)).mono ?_
          rintro e w4 ⟨v, rfl, hfr4⟩
          obtain ⟨g4, cap4, rfl, hg4, hlt4, hb4, hf4⟩ := hfr4.bytes
          have hf4 := hf.trans hf4
          go_wp2_with fail
          refine (sum_any _ _ _ l1 w4 rfl (by omega) hb4 (hnib.keep hf4)).mono ?_
          rintro e w5 ⟨rfl, rfl⟩
          go_wp2_with fail
          refine (clone_any a2 _ c2 l2 w4 rfl hn2 HC2.out (hb2.keep hf4)).mono ?_
          rintro e w5 ⟨v, rfl, hfr5⟩
          obtain ⟨g5, cap5, rfl, hg5, hlt5, hb5, hf5⟩ := hfr5.bytes
          have hf5 := hf4.trans hf5
          go_wp2_with fail
          refine (sum_any _ _ _ l2 w5 rfl (by omega) hb5 (hnib.keep hf5)).mono ?_
          rintro e w6 ⟨rfl, rfl⟩
          go_wp2_with fail
          refine (clone_any a3 _ c3 l3 w5 rfl hn3 HC3.out (hb3.keep hf5)).mono ?_
          rintro e w6 ⟨v, rfl, hfr6⟩
          obtain ⟨g6, cap6, rfl, hg6, hlt6, hb6, hf6⟩ := hfr6.bytes
          have hf6 := hf5.trans hf6
          go_wp2_with fail
          refine (sum_any _ _ _ l3 w6 rfl (by omega) hb6 (hnib.keep hf6)).mono ?_
          rintro e w7 ⟨rfl, rfl⟩
          go_wp2
          go_ret
          exact ⟨by simp [P.update_three l1 l2 l3 H12.out H13.out], hf6⟩
    · have e13 : ((l1.length : Int) != (l3.length : Int)) = true := bne_iff_ne.2 (by omega)
      have H12 := Lib.hid h12; clear h12
      go_enter Tryd.func6, Tryd.ntmps6
      go_wp2_with fail
      refine (speaks_any w hnib).mono ?_
      rintro e w1 ⟨rfl, hf1⟩
      go_wp2
      go_ret
      exact ⟨rfl, hf1⟩
  · have e12 : ((l1.length : Int) != (l2.length : Int)) = true := bne_iff_ne.2 (by omega)
    go_enter Tryd.func6, Tryd.ntmps6
    go_wp2_with fail
    refine (speaks_any w hnib).mono ?_
    rintro e w1 ⟨rfl, hf1⟩
    go_wp2
    go_ret
    exact ⟨rfl, hf1⟩

/-- below k what stands from p on is turned -/
def mixb (l : List UInt8) (p : Nat) (t : List UInt8) : Nat → List UInt8
  | 0 => l
  | k + 1 => (mixb l p t k).set (p + k) (l.getD (p + k) 0 ^^^ t.getD k 0)
theorem mixb_length (l : List UInt8) (p : Nat) (t : List UInt8) : ∀ k, (mixb l p t k).length = l.length
  | 0 => rfl
  | k + 1 => by simp [mixb, mixb_length l p t k]
theorem mixb_far (l : List UInt8) (p : Nat) (t : List UInt8) : ∀ k j, p + k ≤ j → (mixb l p t k).getD j 0 = l.getD j 0
  | 0, _, _ => rfl
  | k + 1, j, h => by
    have : (mixb l p t (k + 1)).getD j 0 = (mixb l p t k).getD j 0 := by simp [mixb, List.getD, List.getElem?_set, show p + k ≠ j by omega]
    rw [this, mixb_far l p t k j (by omega)]
theorem mixb_eq (l : List UInt8) (p : Nat) (t : List UInt8) : ∀ k, p + k ≤ l.length → k ≤ t.length →
    mixb l p t k = l.take p ++ (P.zx ((l.drop p).take k) (t.take k) ++ l.drop (p + k))
  | 0, _, _ => by simp [mixb, P.zx]
  | k + 1, h, ht => by
    have ih := mixb_eq l p t k (by omega) (by omega)
    have hz : (P.zx ((l.drop p).take k) (t.take k)).length = k := by simp [P.zx, List.length_zipWith]; omega
    show (mixb l p t k).set (p + k) _ = _
    rw [ih]
    rw [List.set_append_right _ _ (by simp; omega), List.set_append_right _ _ (by simp [hz]; omega)]
    have e1 : l.drop (p + k) = l.getD (p + k) 0 :: l.drop (p + k + 1) := by
      rw [List.drop_eq_getElem_cons (by omega)]
      simp [List.getD, show p + k < l.length by omega]
    have e2 : p + k - (l.take p).length - (P.zx ((l.drop p).take k) (t.take k)).length = 0 := by rw [hz]; simp; omega
    rw [e2, e1, List.set_cons_zero]
    have e3 : (l.drop p).take (k + 1) = (l.drop p).take k ++ [l.getD (p + k) 0] := by
      rw [take_snoc _ k (by simp; omega)]
      simp [List.getD, show p + k < l.length by omega]
    have e4 : t.take (k + 1) = t.take k ++ [t.getD k 0] := by
      rw [take_snoc _ k (by omega)]
      simp [List.getD, show k < t.length by omega]
    have e5 : P.zx ((l.drop p).take k ++ [l.getD (p + k) 0]) (t.take k ++ [t.getD k 0]) = P.zx ((l.drop p).take k) (t.take k) ++ [l.getD (p + k) 0 ^^^ t.getD k 0] := by
      unfold P.zx
      rw [List.zipWith_append (by simp; omega)]
      rfl
    rw [e3, e4, e5, show p + (k + 1) = p + k + 1 by omega]
    simp
theorem burst (l : List UInt8) (p : Nat) (t : List UInt8) (m : Nat) (h : p + m ≤ l.length) (ht : m ≤ t.length) (h4 : m ≤ 4) :
    (P.update 0#32 (mixb l p t m) == P.update 0#32 l) = (t.take m).all (· == 0) := by
  have hl : l = l.take p ++ ((l.drop p).take m ++ l.drop (p + m)) := by
    rw [← List.drop_drop, List.take_append_drop, List.take_append_drop]
  rw [mixb_eq l p t m h ht]
  conv => lhs; rhs; rw [hl]
  exact P.update_burst _ _ _ _ (by simp; omega) (by simp; omega)
/-- is one of the first k turned? -/
def un (t : List UInt8) (k : Nat) : Bool := !(t.take k).all (· == 0)
theorem un_next (t : List UInt8) (k : Nat) (h : k < t.length) : un t (k + 1) = (un t k || (t.getD k 0 != 0)) := by
  unfold un
  rw [take_snoc t k h, List.all_append, Bool.not_and]
  simp [List.getD, h, bne]

theorem I8_ne0 (x : UInt8) : (I8 x != 0) = (x != 0) := by
  have h : (0 : Int) = I8 0 := by decide +kernel
  rw [h, I8_ne]
theorem crcBurst_out (a1 a2 : Option Addr) (c1 c2 n1 n2 : Nat) (p : Int) (w : World) (hn1 : n1 ≤ 140737488351232) (hp : p < 0 ∨ (n1 : Int) ≤ p) (hnib : Nib w) :
    Calls Tryd.prog 5 #[.slice a1 n1 c1, .int .i64 p, .slice a2 n2 c2] w fun e w' => e = .returned (.bool true) ∧ Fr [] w w' := by
  rcases hp with hp | hp
  · go_enter Tryd.func5, Tryd.ntmps5
    go_wp2_with fail
    refine (speaks_any w hnib).mono ?_
    rintro e w1 ⟨rfl, hf1⟩
    go_wp2
    go_ret
    exact ⟨rfl, hf1⟩
  · have h0 : ¬ p < 0 := by omega
    go_enter Tryd.func5, Tryd.ntmps5
    go_wp2_with fail
    refine (speaks_any w hnib).mono ?_
    rintro e w1 ⟨rfl, hf1⟩
    go_wp2
    go_ret
    exact ⟨rfl, hf1⟩

set_option maxHeartbeats 1600000 in
theorem crcBurst_in (a1 a2 : Option Addr) (c1 c2 : Nat) (l t : List UInt8) (p : Nat) (w : World) (hn1 : l.length ≤ 140737488351232) (hn2 : t.length ≤ 140737488351232) (hp : p < l.length)
    (hc1 : a1 = none → c1 = 0) (hb1 : Bytes w a1 l) (hb2 : Bytes w a2 t) (hnib : Nib w) :
    Calls Tryd.prog 5 #[.slice a1 l.length c1, .int .i64 p, .slice a2 t.length c2] w fun e w' => e = .returned (.bool true) ∧ Fr [] w w' := by
  have HC1 := Lib.hid hc1; clear hc1
  obtain ⟨m, hm⟩ : ∃ m, m = min t.length (min 4 (l.length - p)) := ⟨_, rfl⟩
  have HM := Lib.hid hm; clear hm
  have hp0 : ¬ (p : Int) < 0 := by omega
  go_enter Tryd.func5, Tryd.ntmps5
  go_wp2_with fail
  refine (speaks_any w hnib).mono ?_
  rintro e w1 ⟨rfl, hf1⟩
  go_wp2_with fail
  refine (clone_any a1 _ c1 l w1 rfl hn1 HC1.out (hb1.keep hf1)).mono ?_
  rintro e w2 ⟨v, rfl, hfr⟩
  have hfz := hfr.free
  obtain ⟨g, cap', rfl, hg, hlt, hbx, hf2⟩ := hfr.bytes
  have hf2 := hf1.trans hf2
  go_wp2_with fail
  go_loopw [8, 9] (fun u i wr => ∃ k : Nat, k ≤ m ∧ i = .int .i64 k ∧ u = .bool (un t k) ∧ Fr [] w wr ∧ (∀ j, wr.frozen? ⟨g, j, none⟩ = false) ∧ Bytes wr (some ⟨g, 0, none⟩) (mixb l p t k)) (fun _ i _ => m - (intOf i).toNat)
  case atStart => exact ⟨0, by omega, rfl, rfl, hf2, hfz g rfl, hbx⟩
  case round =>
    obtain ⟨k, hk, rfl, rfl, hf, hz, hb⟩ := hrel
    by_cases hlt : k < m
    · have j1 : (k : Int) < (t.length : Int) := by have := HM.out; omega
      have j2 : (k : Int) < 4 := by have := HM.out; omega
      have j3 : (k : Int) < (l.length : Int) - (p : Int) := by have := HM.out; omega
      obtain ⟨b2, o2, rfl, hx2⟩ := hb2.at (by have := HM.out; omega)
      obtain ⟨_, _, hbe, hx1⟩ := hb.at (by rw [mixb_length]; omega)
      cases hbe
      have HX2 := Lib.hid (hx2 k (by omega))
      have d2 : wr.cell? ⟨b2, o2 + k, none⟩ = some (.int .u8 (I8 (t.getD k 0))) := hf.cell (hx2 k (by omega)) (by simp)
      have d1 : wr.cell? ⟨g, p + k, none⟩ = some (.int .u8 (I8 (l.getD (p + k) 0))) := by
        have := hx1 (p + k) (by rw [mixb_length]; omega)
        rw [Nat.zero_add, mixb_far _ _ _ _ _ (by omega)] at this
        exact this
      have dz := hz (p + k)
      have hun := un_next t k (by omega)
      clear hx1 hx2
      obtain ⟨y1, hy1⟩ : ∃ y, y = l.getD (p + k) 0 := ⟨_, rfl⟩
      obtain ⟨y2, hy2⟩ : ∃ y, y = t.getD k 0 := ⟨_, rfl⟩
      rw [← hy1] at d1
      rw [← hy2] at d2 hun
      have HY1 := Lib.hid hy1; clear hy1
      have HY2 := Lib.hid hy2; clear hy2
      have HU := Lib.hid hun; clear hun
      have HZ := Lib.hid hz; clear hz
      have d3 : (wr.setCell ⟨g, p + k, none⟩ (.int .u8 (I8 (y1 ^^^ y2)))).drew.cell? ⟨b2, o2 + k, none⟩ = some (.int .u8 (I8 y2)) := by
        have h0 := World.block_lt_of_cell? w _ (HX2.out)
        have h1 := hf1.size
        have hne : b2 ≠ g := by
          intro e
          subst e
          have : b2 < w.heap.size := h0
          omega
        show (wr.setCell ⟨g, p + k, none⟩ (.int .u8 (I8 (y1 ^^^ y2)))).cell? ⟨b2, o2 + k, none⟩ = _
        rw [World.cell?_setCell_other _ _ _ _ (by simp [hne])]
        exact d2
      clear HX2
      generalize hu : un t k = u
      rw [hu] at HU
      have hu' := Lib.hid hu; clear hu
      cases u
      · go_wp2_with fail
        go_region
        go_wp2
        go_roundw
        case rel =>
          refine ⟨k + 1, by omega, by go_num, by rw [HU.out, I8_ne0]; rfl, (hf.setCell (fun h => absurd h (by have := hf1.size; show ¬ g < _; omega)) _).drew, fun j => (World.frozen?_setCell _ _ _ _).trans (HZ.out j), ?_⟩
          have := hb.set (p + k) (by rw [mixb_length]; omega) (l.getD (p + k) 0 ^^^ t.getD k 0)
          rw [← HY1.out, ← HY2.out] at this
          have e : mixb l p t (k + 1) = (mixb l p t k).set (p + k) (y1 ^^^ y2) := by rw [HY1.out, HY2.out]; rfl
          rw [e]
          exact this
        case measure => simp [intOf] <;> omega
      · go_wp2_with fail
        go_region
        go_wp2
        go_roundw
        case rel =>
          refine ⟨k + 1, by omega, by go_num, by rw [HU.out]; rfl, (hf.setCell (fun h => absurd h (by have := hf1.size; show ¬ g < _; omega)) _).drew, fun j => (World.frozen?_setCell _ _ _ _).trans (HZ.out j), ?_⟩
          have := hb.set (p + k) (by rw [mixb_length]; omega) (l.getD (p + k) 0 ^^^ t.getD k 0)
          rw [← HY1.out, ← HY2.out] at this
          have e : mixb l p t (k + 1) = (mixb l p t k).set (p + k) (y1 ^^^ y2) := by rw [HY1.out, HY2.out]; rfl
          rw [e]
          exact this
        case measure => simp [intOf] <;> omega
    · have hend : t.length ≤ k ∨ (k < t.length ∧ (4 : Int) ≤ (k : Int)) ∨ (k < t.length ∧ ((k : Int) < 4) ∧ (l.length : Int) - (p : Int) ≤ (k : Int)) := by have := HM.out; omega
      have hkm := burst l p t k (by have := HM.out; omega) (by have := HM.out; omega) (by have := HM.out; omega)
      have HK := Lib.hid hkm
      have HL := Lib.hid (mixb_length l p t k)
      clear hkm hz
      rcases hend with he | ⟨h1, h2⟩ | ⟨h1, h2, h3⟩
      all_goals
        go_wp2_with fail
        refine (sum_any _ _ _ _ wr HL.out (by omega) hb (hnib.keep hf)).mono ?_
        rintro e w3 ⟨rfl, rfl⟩
        go_wp2_with fail
        refine (clone_any a1 _ c1 l wr rfl hn1 HC1.out (hb1.keep hf)).mono ?_
        rintro e w4 ⟨v, rfl, hfr4⟩
        obtain ⟨g4, cap4, rfl, hg4, hlt4, hb4, hf4⟩ := hfr4.bytes
        have hf4 := hf.trans hf4
        go_wp2_with fail
        refine (sum_any _ _ _ l w4 rfl (by omega) hb4 (hnib.keep hf4)).mono ?_
        rintro e w5 ⟨rfl, rfl⟩
        go_wp2
        go_ret
        refine ⟨ret_eq (congrArg Value.bool ?_), hf4⟩
        show ((I32 _ != I32 _) == un t k) = true
        rw [I32_ne]
        unfold bne un
        rw [HK.out]
        exact beq_self_eq_true _

theorem crcBurst_walk (a1 a2 : Option Addr) (c1 c2 : Nat) (l t : List UInt8) (p : Int) (w : World) (hn1 : l.length ≤ 140737488351232) (hn2 : t.length ≤ 140737488351232)
    (hc1 : a1 = none → c1 = 0) (hb1 : Bytes w a1 l) (hb2 : Bytes w a2 t) (hnib : Nib w) :
    Calls Tryd.prog 5 #[.slice a1 l.length c1, .int .i64 p, .slice a2 t.length c2] w fun e w' => e = .returned (.bool true) ∧ Fr [] w w' := by
  by_cases h1 : p < 0
  · exact crcBurst_out a1 a2 c1 c2 _ _ p w hn1 (.inl h1) hnib
  · by_cases h2 : (l.length : Int) ≤ p
    · exact crcBurst_out a1 a2 c1 c2 _ _ p w hn1 (.inr h2) hnib
    · obtain ⟨q, rfl⟩ := Int.eq_ofNat_of_zero_le (show 0 ≤ p by omega)
      exact crcBurst_in a1 a2 c1 c2 l t q w hn1 hn2 (by omega) hc1 hb1 hb2 hnib

/-! the digests -/
/-- a digest in block g: its sum and its count -/
def Dig (w : World) (g : Nat) (s : BitVec 32) (c : Int) : Prop := w.heap[g]? = some (.cells #[.int .u32 (I32 s), .int .i64 c] 46 (0, 0))
theorem Dig.c0 {w : World} {g : Nat} {s : BitVec 32} {c : Int} (h : Dig w g s c) : w.cell? ⟨g, 0, none⟩ = some (.int .u32 (I32 s)) := by rw [cell_of_row w g 0 _ _ _ h]; rfl
theorem Dig.c1 {w : World} {g : Nat} {s : BitVec 32} {c : Int} (h : Dig w g s c) : w.cell? ⟨g, 1, none⟩ = some (.int .i64 c) := by rw [cell_of_row w g 1 _ _ _ h]; rfl
theorem Dig.free {w : World} {g : Nat} {s : BitVec 32} {c : Int} (h : Dig w g s c) (j : Nat) : w.frozen? ⟨g, j, none⟩ = false := frozen_of_row w g j _ _ h
theorem Dig.fr {S : List Nat} {w w' : World} {g : Nat} {s : BitVec 32} {c : Int} (h : Dig w g s c) (hf : Fr S w w') (hn : g ∉ S) : Dig w' g s c := hf.obj h hn
theorem Dig.lt {w : World} {g : Nat} {s : BitVec 32} {c : Int} (h : Dig w g s c) : g < w.heap.size := (Array.getElem?_eq_some_iff.1 h).1

theorem new_any (w : World) : Calls Tryd.prog 16 #[] w fun e w' => e = .returned (.pointer (some ⟨w.heap.size, 0, none⟩)) ∧ Fr [] w w' ∧ Dig w' w.heap.size 0#32 0 ∧ w'.heap.size = w.heap.size + 1 := by
  go_enter Tryd.func16, Tryd.ntmps16
  go_wp2
  go_ret
  refine ⟨rfl, (Fr.refl _ _).alloc _, ?_, by simp⟩
  unfold Dig
  rw [I32_zero]
  exact heap_alloc_new w _
theorem dsum_any (w : World) (g : Nat) (s : BitVec 32) (c : Int) (h : Dig w g s c) : Calls Tryd.prog 17 #[.pointer (some ⟨g, 0, none⟩)] w fun e w' => e = .returned (.int .u32 (I32 s)) ∧ w = w' := by
  have h0 := h.c0
  go_enter Tryd.func17, Tryd.ntmps17
  go_wp2
  go_ret
  exact ⟨rfl, rfl⟩
theorem dcount_any (w : World) (g : Nat) (s : BitVec 32) (c : Int) (h : Dig w g s c) : Calls Tryd.prog 18 #[.pointer (some ⟨g, 0, none⟩)] w fun e w' => e = .returned (.int .i64 c) ∧ w = w' := by
  have h1 := h.c1
  go_enter Tryd.func18, Tryd.ntmps18
  go_wp2
  go_ret
  exact ⟨rfl, rfl⟩
theorem dwrite_any (w : World) (g : Nat) (s : BitVec 32) (c : Int) (h : Dig w g s c) (a : Option Addr) (cap : Nat) (l : List UInt8) (hl : l.length ≤ 140737488351232) (hb : Bytes w a l) (hnib : Nib w) :
    Calls Tryd.prog 19 #[.pointer (some ⟨g, 0, none⟩), .slice a l.length cap] w fun e w' => e = .returned (.tuple #[]) ∧ Fr [g] w w' ∧ Dig w' g (P.update s l) (wrap64 (c + l.length)) ∧ w'.heap.size = w.heap.size := by
  have h0 := h.c0
  have h1 := h.c1
  have z0 := h.free 0
  have z1 := h.free 1
  have hg := h.lt
  go_enter Tryd.func19, Tryd.ntmps19
  go_wp2_with fail
  refine (update_any s _ _ _ l w rfl (by omega) hb hnib).mono ?_
  rintro e w' ⟨rfl, rfl⟩
  go_wp2
  go_end0
  refine ⟨rfl, ((Fr.refl _ _).setCell (by simp) _).setCell (by simp) _, ?_, by simp [World.setCell]⟩
  unfold Dig
  rw [heap_setCell_same _ g 1 _ _ _ (heap_setCell_same _ g 0 _ _ _ h)]
  rfl

theorem wrap_next (k : Nat) (h : k ≤ 5864062014634) : wrap64 ((k : Int) + ((lb [7]).length : Int)) = ((k + 1 : Nat) : Int) := by
  have : ((lb [7]).length : Int) = 1 := rfl
  rw [this, IntWalk.wrap64_in _ ⟨by omega, by omega⟩]; omega
def cat (L : Nat → List UInt8) : Nat → BitVec 32
  | 0 => 0#32
  | k + 1 => P.update (cat L k) (L k)
def cnt (L : Nat → List UInt8) : Nat → Int
  | 0 => 0
  | k + 1 => wrap64 (cnt L k + (L k).length)

set_option maxHeartbeats 3200000 in
theorem crcDigests_walk (a : Option Addr) (n cap : Nat) (A : Nat → Option Addr) (C : Nat → Nat) (L : Nat → List UInt8) (w : World) (hn : n ≤ 5864062014634) (hp : Pieces w a n A C L) (hnib : Nib w) :
    Calls Tryd.prog 7 #[.slice a n cap] w fun e w' => e = .returned (.bool true) ∧ Fr [] w w' := by
  have hI0 := I32_zero
  have HP := Lib.hid hp; clear hp
  go_enter Tryd.func7, Tryd.ntmps7
  go_wp2_with fail
  refine (speaks_any w hnib).mono ?_
  rintro e w1 ⟨rfl, hf1⟩
  go_wp2_with fail
  refine (new_any w1).mono ?_
  rintro e w2 ⟨rfl, hf2, hd2, hs2⟩
  go_wp2_with fail
  refine (new_any w2).mono ?_
  rintro e w3 ⟨rfl, hf3, hd3, hs3⟩
  have hd2 := hd2.fr hf3 (by simp)
  have hfA := (hf1.trans hf2).trans hf3
  obtain ⟨g1, hg1⟩ : ∃ g, g = w1.heap.size := ⟨_, rfl⟩
  obtain ⟨g2, hg2⟩ : ∃ g, g = w2.heap.size := ⟨_, rfl⟩
  rw [← hg1] at hd2 ⊢
  rw [← hg2] at hd3 ⊢
  have hne : g1 ≠ g2 := by omega
  have hw1 : w.heap.size ≤ g1 := by have := hf1.size; omega
  have hw2 : w.heap.size ≤ g2 := by have := hf1.size; have := hf2.size; omega
  clear hs2 hs3 hg1 hg2 hf2 hf3 hf1
  go_wp2_with fail
  refine (dsum_any w3 g1 _ _ hd2).mono ?_
  rintro e w4 ⟨rfl, rfl⟩
  go_wp2_with fail
  refine (dcount_any w3 g1 _ _ hd2).mono ?_
  rintro e w4 ⟨rfl, rfl⟩
  go_wp2_with fail
  clear hI0
  go_loopw [5, 6, 33] (fun s c i wr => ∃ k : Nat, k ≤ n ∧ i = .int .i64 k ∧ s = .int .u32 (I32 (cat L k)) ∧ c = .int .i64 (cnt L k) ∧ Fr [] w wr ∧ Dig wr g1 (cat L k) (cnt L k) ∧ ∃ s2, Dig wr g2 s2 k) (fun _ _ i _ => n - (intOf i).toNat)
  case atStart => exact ⟨0, by omega, rfl, by rw [← I32_zero]; rfl, rfl, hfA, hd2, _, hd3⟩
  case round =>
    obtain ⟨k, hk, rfl, rfl, rfl, hf, e1, s2, e2⟩ := hrel
    clear hd2 hd3 hfA
    by_cases hlt : k < n
    · obtain ⟨b, off, rfl, hcell⟩ := HP.out.cell k hlt
      have hcell := hf.cell hcell (by simp)
      have hlen := HP.out.len k hlt
      have HN := Lib.hid (HP.out.none k hlt)
      have hbp := (HP.out.bytes k hlt).keep hf
      have hbp0 := HP.out.bytes k hlt
      generalize hL : L k = l at *
      generalize hA : A k = ap at *
      have HLk := Lib.hid hL; clear hL
      clear hA
      go_wp2_with fail
      refine (clone_any ap _ _ l wr rfl hlen HN.out hbp).mono ?_
      rintro e w4 ⟨v, rfl, hfr⟩
      have hfz := hfr.free
      obtain ⟨gx, capx, rfl, hgx, hltx, hbx, hf4⟩ := hfr.bytes
      have hfw4 := hf.trans hf4
      have hgx1 : g1 ≠ gx := by have := e1.lt; omega
      have hgx2 : g2 ≠ gx := by have := e2.lt; omega
      have e1 := e1.fr hf4 (by simp)
      have e2 := e2.fr hf4 (by simp)
      go_wp2_with fail
      refine (dwrite_any w4 g1 _ _ e1 _ _ l hlen hbx (hnib.keep hfw4)).mono ?_
      rintro e w5 ⟨rfl, hf5, e3, hsz5⟩
      have e2 := e2.fr hf5 (by simp; omega)
      have hbx5 : Bytes w5 (some ⟨gx, 0, none⟩) l := hbx.fr hf5 (Or.inr fun ad h => by cases h; simp; omega)
      have hfw5 : Fr [] w w5 := hfw4.next hf5 (by simp; omega)
      have hz5 : ∀ j, w5.frozen? ⟨gx, j, none⟩ = false := fun j => by
        rw [World.frozen?_of_block (w := w4) (hf5.block gx hltx (by simp; omega))]
        exact hfz gx rfl j
      have hgxw : ¬ gx < w.heap.size := by have := hf.size; omega
      have hgx5 : gx < w5.heap.size := by omega
      clear hf5 hsz5 hf4 hbx hfz hfr hbp hcell
      go_wp2_with fail
      go_loopw [44] (fun i w6 => ∃ j : Nat, j ≤ l.length ∧ i = .int .i64 j ∧ Fr [gx] w5 w6 ∧ (∀ t, w6.frozen? ⟨gx, t, none⟩ = false) ∧ ∀ t, j ≤ t → t < l.length → w6.cell? ⟨gx, t, none⟩ = some (.int .u8 (I8 (l.getD t 0)))) (fun i _ => l.length - (intOf i).toNat)
      case atStart =>
        refine ⟨0, by omega, rfl, Fr.refl _ _, hz5, fun t _ ht => ?_⟩
        obtain ⟨_, _, hb', hc'⟩ := hbx5.at (by omega)
        cases hb'
        have := hc' t ht
        rwa [Nat.zero_add] at this
      case round =>
        obtain ⟨j, hj, rfl, hf6, hz6, hc6⟩ := hrel
        by_cases hjt : j < l.length
        · have d1 := hc6 j (by omega) hjt
          obtain ⟨b3, o3, rfl, hx3⟩ := hbp0.at (by omega)
          have hb3 : b3 ≠ gx := by
            intro e
            have := World.block_lt_of_cell? w _ (hx3 j hjt)
            have h' : b3 < w.heap.size := this
            omega
          have d3 : wr.cell? ⟨b3, o3 + j, none⟩ = some (.int .u8 (I8 (l.getD j 0))) := hf6.cell (hfw5.cell (hx3 j hjt) (by simp)) (by simp [hb3])
          have dz := hz6 j
          have HC6 := Lib.hid hc6; clear hc6 hx3
          have HZ6 := Lib.hid hz6; clear hz6
          generalize l.getD j 0 = y at d1 d3
          go_wp2_with fail
          go_quiet (fail)
          go_wp2
          go_roundw
          case rel =>
            refine ⟨j + 1, by omega, by go_num, (hf6.drewN nq).setCell (by simp) _, fun t => (World.frozen?_setCell _ _ _ _).trans (HZ6.out t), fun t h1 h2 => ?_⟩
            rw [World.cell?_setCell_other _ _ _ _ (by intro h; have h2 := congrArg Addr.off h; simp only at h2; omega)]
            exact HC6.out t (by omega) h2
          case measure => simp [intOf] <;> omega
        · have hfa : Fr [] w wr := hfw5.next hf6 (by simp; omega)
          have e4 := e3.fr hf6 (by simp; omega)
          have e5 := e2.fr hf6 (by simp; omega)
          have hfb : Fr [] w (wr.alloc (.cells #[.int .u8 7] 5)) := hfa.alloc _
          have e6 : Dig (wr.alloc (.cells #[.int .u8 7] 5)) g1 _ _ := e4.fr ((Fr.refl [] wr).alloc _) (by simp)
          have e7 : Dig (wr.alloc (.cells #[.int .u8 7] 5)) g2 _ _ := e5.fr ((Fr.refl [] wr).alloc _) (by simp)
          clear hc6 hz6 hz5 hbx5 e2 e3 hf
          go_wp2_with fail
          refine (dwrite_any _ g2 s2 k e7 _ 1 (lb [7]) (by simp [lb]) (Bytes.lit [7] rfl rfl rfl) (hnib.keep hfb)).mono ?_
          rintro e w7 ⟨rfl, hf7, e8, _⟩
          have e9 := e6.fr hf7 (by simp; omega)
          have hfc : Fr [] w w7 := hfb.next hf7 (by simp; omega)
          go_wp2_with fail
          refine (refupdate_any _ _ _ _ l w7 rfl (by omega) (hbp0.keep hfc)).mono ?_
          rintro e w8 ⟨rfl, rfl⟩
          go_wp2_with fail
          refine (dsum_any w7 g1 _ _ e9).mono ?_
          rintro e w8 ⟨rfl, rfl⟩
          go_wp2_with fail
          refine (dcount_any w7 g1 _ _ e9).mono ?_
          rintro e w8 ⟨rfl, rfl⟩
          go_wp2_with fail
          go_roundw
          case rel =>
            rw [wrap_next k (by omega)] at e8
            refine ⟨k + 1, by omega, by go_num, ?_, ?_, hfc, ?_, _, e8⟩
            · show _ = Value.int .u32 (I32 (P.update (cat L k) (L k)))
              rw [HLk.out]
            · show _ = Value.int .i64 (wrap64 (cnt L k + ((L k).length : Int)))
              rw [HLk.out]
            · show Dig w7 g1 (P.update (cat L k) (L k)) (wrap64 (cnt L k + ((L k).length : Int)))
              rw [HLk.out]; exact e9
          case measure => simp [intOf] <;> omega
    · have hkn := Lib.hid (show k = n by omega)
      go_wp2_with fail
      refine (dcount_any wr g2 _ _ e2).mono ?_
      rintro e w8 ⟨rfl, rfl⟩
      have heq : ((k : Int) == (n : Int)) = true := by rw [hkn.out, beq_self_eq_true]
      go_wp2_with fail
      refine (dsum_any wr g1 _ _ e1).mono ?_
      rintro e w8 ⟨rfl, rfl⟩
      go_wp2
      go_ret
      exact ⟨by simp, hf⟩
end Go.Proofs.YtfdohojnadpohaaDoor
