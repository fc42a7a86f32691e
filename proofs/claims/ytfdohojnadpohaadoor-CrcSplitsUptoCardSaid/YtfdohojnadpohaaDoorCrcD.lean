/- The walks of the laws CrcSums, CrcUpdates, CrcCombines: each returns true and leaves what was there. -/
import Derived.Test.YtfdohojnadpohaaDoorCrcC
namespace Go.Proofs.YtfdohojnadpohaaDoor
open Go.RowKit
theorem not_true (w : World) : (Op.unary .not (.bool true)).run Tryd.prog w = .ok (.bool false) w := rfl

theorem crcSums_walk (a : Option Addr) (n cap : Nat) (l : List UInt8) (w : World) (hl : l.length = n) (hn : n ≤ 140737488351232) (hc : a = none → cap = 0) (hb : Bytes w a l) (hnib : Nib w) :
    Calls Tryd.prog 3 #[.slice a n cap] w fun e w' => e = .returned (.bool true) ∧ Fr [] w w' := by
  have HC := Lib.hid hc; clear hc
  go_enter Tryd.func3, Tryd.ntmps3
  go_wp2_with fail
  refine (speaks_any w hnib).mono ?_
  rintro e w1 ⟨rfl, hf1⟩
  go_wp2_with fail
  refine (clone_any a n cap l w1 hl hn HC.out (hb.keep hf1)).mono ?_
  rintro e w2 ⟨v, rfl, hfr⟩
  obtain ⟨g, cap', rfl, hg, hlt, hb2, hf2⟩ := hfr.bytes
  rw [hl]
  go_wp2_with fail
  refine (sum_any _ n _ l _ hl (by omega) hb2 ((hnib.keep hf1).keep hf2)).mono ?_
  rintro e w3 ⟨rfl, rfl⟩
  go_wp2_with fail
  refine (refsum_any a n _ l _ hl (by omega) ((hb.keep hf1).keep hf2)).mono ?_
  rintro e w3 ⟨rfl, rfl⟩
  go_wp2
  go_ret
  exact ⟨by simp, hf1.trans hf2⟩

theorem crcUpdates_walk (s : BitVec 32) (a : Option Addr) (n cap : Nat) (l : List UInt8) (w : World) (hl : l.length = n) (hn : n ≤ 140737488351232) (hc : a = none → cap = 0) (hb : Bytes w a l) (hnib : Nib w) :
    Calls Tryd.prog 4 #[.int .u32 (I32 s), .slice a n cap] w fun e w' => e = .returned (.bool true) ∧ Fr [] w w' := by
  have HC := Lib.hid hc; clear hc
  go_enter Tryd.func4, Tryd.ntmps4
  go_wp2_with fail
  refine (speaks_any w hnib).mono ?_
  rintro e w1 ⟨rfl, hf1⟩
  go_wp2_with fail
  refine (clone_any a n cap l w1 hl hn HC.out (hb.keep hf1)).mono ?_
  rintro e w2 ⟨v, rfl, hfr⟩
  obtain ⟨g, cap', rfl, hg, hlt, hb2, hf2⟩ := hfr.bytes
  rw [hl]
  go_wp2_with fail
  refine (update_any s _ n _ l _ hl (by omega) hb2 ((hnib.keep hf1).keep hf2)).mono ?_
  rintro e w3 ⟨rfl, rfl⟩
  go_wp2_with fail
  refine (refupdate_any s a n _ l _ hl (by omega) ((hb.keep hf1).keep hf2)).mono ?_
  rintro e w3 ⟨rfl, rfl⟩
  go_wp2
  go_ret
  exact ⟨by simp, hf1.trans hf2⟩

theorem crcCombines_walk (x y : BitVec 32) (n : Int) (w : World) (h1 : -9223372036854775808 ≤ n) (h2 : n ≤ 9223372036854775807) (hnib : Nib w) :
    Calls Tryd.prog 8 #[.int .u32 (I32 x), .int .u32 (I32 y), .int .i64 n] w fun e w' => e = .returned (.bool true) ∧ Fr [] w w' := by
  go_enter Tryd.func8, Tryd.ntmps8
  go_wp2_with fail
  refine (speaks_any w hnib).mono ?_
  rintro e w1 ⟨rfl, hf1⟩
  go_wp2_with fail
  refine (combine_any x y n w1 h1 h2).mono ?_
  rintro e w2 ⟨rfl, hf2⟩
  go_wp2_with fail
  refine (refcombine_any x y n w2 h1 h2).mono ?_
  rintro e w3 ⟨rfl, rfl⟩
  go_wp2
  go_ret
  exact ⟨by simp, hf1.trans hf2⟩

set_option maxHeartbeats 800000 in
theorem crcSplits_walk (a b : Option Addr) (n cap m cap2 : Nat) (l r : List UInt8) (w : World) (hl : l.length = n) (hr : r.length = m) (hn : n + m ≤ 140737488351232) (hc : a = none → cap = 0) (hc2 : b = none → cap2 = 0) (hb : Bytes w a l) (hb2 : Bytes w b r) (hnib : Nib w) :
    Calls Tryd.prog 9 #[.slice a n cap, .slice b m cap2] w fun e w' => e = .returned (.bool true) ∧ Fr [] w w' := by
  subst hl; subst hr
  have HC := Lib.hid hc; clear hc
  have HC2 := Lib.hid hc2; clear hc2
  go_enter Tryd.func9, Tryd.ntmps9
  go_wp2_with fail
  refine (speaks_any w hnib).mono ?_
  rintro e w1 ⟨rfl, hf1⟩
  go_wp2_with fail
  refine (clone_any a _ cap l w1 rfl (by omega) HC.out (hb.keep hf1)).mono ?_
  rintro e w2 ⟨v, rfl, hfr⟩
  have hfr2 := hfr.bytes
  obtain ⟨g, cap', rfl, hg, hlt, ho, hf2⟩ := hfr
  have hbr : Bytes w2 b r := (hb2.keep hf1).keep hf2
  go_wp2_with (at_builtin; refine wpList_appB _ rfl _ _ 22 rfl w1.heap.size 5 Tryd.underlying22 info8 (.slice (some ⟨g, 0, none⟩) l.length cap') l rfl ho b _ cap2 r rfl rfl hbr HC2.out (by omega) (by omega) ?_; intro v3 w3 ho3 hgr3 _; have HO3 := Lib.hid ho3; have HG3 := Lib.hid hgr3; clear ho3 hgr3)
  obtain ⟨a3, cap3, rfl, hb3, _⟩ := Bytes.of_own HO3.out
  have hf3 : Fr [] w w3 := (hf1.trans hf2).next (Fr.of_grown HG3.out [g] (by intro k hk _; simp [Value.ownBlock] at hk; simp [hk])) (by have := hf1.size; intro i hi hlt; simp at hi; omega)
  go_wp2_with fail
  refine (sum_any _ _ _ (l ++ r) _ rfl (by rw [List.length_append]; omega) hb3 (hnib.keep hf3)).mono ?_
  rintro e w4 ⟨rfl, rfl⟩
  go_wp2_with fail
  refine (clone_any a _ cap l w3 rfl (by omega) HC.out (hb.keep hf3)).mono ?_
  rintro e w4 ⟨v, rfl, hfr4⟩
  obtain ⟨g4, cap4, rfl, hg4, hlt4, hb4, hf4⟩ := hfr4.bytes
  have hf4 := hf3.trans hf4
  go_wp2_with fail
  refine (sum_any _ _ _ l _ rfl (by omega) hb4 (hnib.keep hf4)).mono ?_
  rintro e w5 ⟨rfl, rfl⟩
  go_wp2_with fail
  refine (clone_any b _ cap2 r w4 rfl (by omega) HC2.out (hb2.keep hf4)).mono ?_
  rintro e w5 ⟨v, rfl, hfr5⟩
  obtain ⟨g5, cap5, rfl, hg5, hlt5, hb5, hf5⟩ := hfr5.bytes
  have hf5 := hf4.trans hf5
  go_wp2_with fail
  refine (update_any _ _ _ _ r _ rfl (by omega) hb5 (hnib.keep hf5)).mono ?_
  rintro e w6 ⟨rfl, rfl⟩
  have hone : (I32 (P.update (P.update 0#32 l) r) == I32 (P.update 0#32 (l ++ r))) = true := by rw [P.update_append, beq_self_eq_true]
  go_wp2_with fail
  refine (clone_any a _ cap l w5 rfl (by omega) HC.out (hb.keep hf5)).mono ?_
  rintro e w6 ⟨v, rfl, hfr6⟩
  obtain ⟨g6, cap6, rfl, hg6, hlt6, hb6, hf6⟩ := hfr6.bytes
  have hf6 := hf5.trans hf6
  go_wp2_with fail
  refine (sum_any _ _ _ l _ rfl (by omega) hb6 (hnib.keep hf6)).mono ?_
  rintro e w7 ⟨rfl, rfl⟩
  go_wp2_with fail
  refine (clone_any b _ cap2 r w6 rfl (by omega) HC2.out (hb2.keep hf6)).mono ?_
  rintro e w7 ⟨v, rfl, hfr7⟩
  obtain ⟨g7, cap7, rfl, hg7, hlt7, hb7, hf7⟩ := hfr7.bytes
  have hf7 := hf6.trans hf7
  go_wp2_with fail
  refine (sum_any _ _ _ r _ rfl (by omega) hb7 (hnib.keep hf7)).mono ?_
  rintro e w8 ⟨rfl, rfl⟩
  go_wp2_with fail
  refine (combine_any _ _ (r.length : Int) w7 (by omega) (by omega)).mono ?_
  rintro e w8 ⟨rfl, hf8⟩
  have htwo : (I32 (P.combine (P.update 0#32 l) (P.update 0#32 r) (r.length : Int).toNat) == I32 (P.update 0#32 (l ++ r))) = true := by
    rw [P.update_append, P.update_split, Int.toNat_natCast, beq_self_eq_true]
  go_wp2
  go_ret
  exact ⟨by simp [P.update_append, P.update_split], hf7.trans hf8⟩
end Go.Proofs.YtfdohojnadpohaaDoor
