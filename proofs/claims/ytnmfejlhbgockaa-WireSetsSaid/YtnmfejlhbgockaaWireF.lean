/- The walk of the law WireSets. -/
import Derived.Test.YtnmfejlhbgockaaWireE
import Derived.Deep.RegionHeld3
namespace Go.Proofs.Ytnmfejlhbgockaa
open Go.RowKit
attribute [local go_sem] mulU256 wrapU_nat wrapU_I8 wrapU addU mulU remU divU byteU shrU I8_ne I8_eq U_eq U_ne

theorem put_get (l : List UInt8) (p wd n : Nat) (h : p + wd ≤ l.length) : ((put l p (by8 wd n)).drop p).take wd = by8 wd n := by
  unfold put
  have h1 : (l.take p).length = p := by rw [List.length_take]; omega
  rw [List.drop_append_of_le_length (by omega), List.drop_of_length_le (by omega), List.nil_append]
  have h2 := by8_length wd n
  rw [List.take_append_of_le_length (by omega), List.take_of_length_le (by omega)]
theorem by8_again (wd n : Nat) : by8 wd (be (by8 wd n)) = by8 wd n := by rw [be_by8, by8_mod]
theorem setBytes_length (l : List UInt8) (p z : Int) (n : Nat) : (setBytes l p z n).length ≤ l.length := by
  rcases get_cases l p z with h | ⟨wd, rfl, hw, hp, h⟩ | ⟨wd, q, rfl, rfl, hw, h⟩
  · rw [setBytes_ne (by rw [getErr_no h]; decide)]; simp
  · rw [setBytes_ne (by rw [getErr_short hw hp h]; decide)]; simp
  · rw [setBytes_yes hw h, put_length _ _ _ (by rw [by8_length]; exact h)]; omega

/-- a boxed SetArg -/
structure SetBox (w : World) (b : Nat) (v0 v1 v2 v3 : Value) : Prop where
  c0 : w.cell? ⟨b, 0, none⟩ = some v0
  c1 : w.cell? ⟨b, 1, none⟩ = some v1
  c2 : w.cell? ⟨b, 2, none⟩ = some v2
  c3 : w.cell? ⟨b, 3, none⟩ = some v3
theorem SetBox.keep {w w' : World} {b : Nat} {v0 v1 v2 v3 : Value} (h : SetBox w b v0 v1 v2 v3) (hf : Fr [] w w') : SetBox w' b v0 v1 v2 v3 :=
  ⟨hf.cell h.c0 (by simp), hf.cell h.c1 (by simp), hf.cell h.c2 (by simp), hf.cell h.c3 (by simp)⟩
theorem SetBox.new {w : World} {t : Nat} {v0 v1 v2 v3 : Value} : SetBox (w.alloc (.cells #[v0, v1, v2, v3] t)) w.heap.size v0 v1 v2 v3 :=
  ⟨cell_of_row _ _ 0 _ t _ (heap_alloc_new w _), cell_of_row _ _ 1 _ t _ (heap_alloc_new w _), cell_of_row _ _ 2 _ t _ (heap_alloc_new w _), cell_of_row _ _ 3 _ t _ (heap_alloc_new w _)⟩
theorem num_same (wd m n : Nat) (w : World) (hw : Wd wd) (hm : m < 18446744073709551616) (h : by8 wd m = by8 wd n) :
    Calls Try.prog 16 #[.int .i64 wd, .int .u64 (U m)] w fun e w' => ∃ g cap, e = .returned (.slice (some ⟨g, 0, none⟩) wd cap) ∧ Bytes w' (some ⟨g, 0, none⟩) (by8 wd n) ∧ Fr [] w w' := by
  refine (refnum_yes wd m w hw hm).mono ?_
  rintro e w' ⟨v, rfl, hf⟩
  obtain ⟨g, cap, rfl, _, _, hb, hff⟩ := hf.bytes
  rw [by8_length]
  rw [h] at hb
  exact ⟨g, cap, rfl, hb, hff⟩

theorem same_wd (g g' c c' : Nat) (wd n : Nat) (w : World) (hw : Wd wd) (h1 : Bytes w (some ⟨g, 0, none⟩) (by8 wd n)) (h2 : Bytes w (some ⟨g', 0, none⟩) (by8 wd n)) :
    Calls Try.prog 15 #[.slice (some ⟨g, 0, none⟩) wd c, .slice (some ⟨g', 0, none⟩) wd c'] w fun e w' => e = .returned (.bool true) ∧ Fr [] w w' := by
  have hle := hw.le
  have h := same_yes (some ⟨g, 0, none⟩) (some ⟨g', 0, none⟩) c c' (by8 wd n) w (by rw [by8_length]; omega) h1 h2
  rwa [by8_length] at h
theorem held2 {w0 w w' : World} {p q : Addr} {u v : Value} (h : w.cell? p = some u ∧ w.cell? q = some v ∧ Fr [] w0 w) (hf : Fr [] w w') : w'.cell? p = some u ∧ w'.cell? q = some v ∧ Fr [] w0 w' :=
  ⟨hf.cell h.1 (by simp), hf.cell h.2.1 (by simp), h.2.2.trans hf⟩
theorem third {a b c : Prop} (h : a ∧ b ∧ c) : c := h.2.2
theorem held2_start {w : World} {p q : Addr} {u v : Value} (h : w.cell? p = some u) (h2 : w.cell? q = some v) : w.drew.cell? p = some u ∧ w.drew.cell? q = some v ∧ Fr [] w w.drew :=
  ⟨h, h2, (Fr.refl _ _).drew⟩
set_option maxHeartbeats 1600000 in
theorem wireSets_walk (a : Option Addr) (c : Nat) (l : List UInt8) (p z : Int) (n : Nat) (w : World) (hl : l.length ≤ 140737488351232) (hc : l.length ≤ c) (hb : Bytes w a l) (hp2 : p ≤ 9223372036854775807) (hn : n < 18446744073709551616) :
    Calls Try.prog 4 #[.agg #[.slice a l.length c, .int .i64 p, .int .i64 z, .int .u64 (U n)]] w fun e w' => e = .returned (.bool true) ∧ Fr [] w w' := by
  go_enter Try.func4, Try.ntmps4
  go_wp2_with fail
  obtain ⟨w0, hw0⟩ : ∃ w0, w0 = w.alloc (.cells #[.slice a l.length c, .int .i64 p, .int .i64 z, .int .u64 (U n)] 33) := ⟨_, rfl⟩
  have hbx : SetBox w0 w.heap.size (.slice a l.length c) (.int .i64 p) (.int .i64 z) (.int .u64 (U n)) := by rw [hw0]; exact SetBox.new
  have hf0 : Fr [] w w0 := by rw [hw0]; exact (Fr.refl _ _).alloc _
  rw [← hw0]
  clear hw0
  refine (speaks_wire _).mono ?_
  rintro e w1 ⟨rfl, hf1⟩
  obtain ⟨c0, c1, c2, c3⟩ := hbx.keep hf1
  go_wp2_with fail
  refine (copy_any a c l w1 hl ((hb.keep hf0).keep hf1)).mono ?_
  rintro e w2 ⟨v, rfl, hfr⟩
  obtain ⟨g, cap, rfl, hg, hlt, hb2, hf2⟩ := hfr.bytes
  clear hfr
  obtain ⟨d0, d1, d2, d3⟩ := SetBox.keep ⟨c0, c1, c2, c3⟩ hf2
  clear c0 c1 c2 c3
  go_wp2_with fail
  refine (set_any (some ⟨g, 0, none⟩) cap l p z n w2 hl (fun h => by cases h) hb2 hp2 hn).mono ?_
  rintro e w3 ⟨v, rfl, hgot⟩
  have hf3 := hgot.2
  obtain ⟨a3, cap3, rfl, hb3, hcap3, _, _⟩ := hgot.bytes
  clear hgot
  obtain ⟨c0, c1, c2, c3⟩ := SetBox.keep ⟨d0, d1, d2, d3⟩ hf3
  clear d0 d1 d2 d3
  have HS := Lib.hid (setBytes_length l p z n)
  go_wp2_with fail
  refine (refset_any a c l p z n w3 hl hc ((((hb.keep hf0).keep hf1).keep hf2).keep hf3) hp2 hn).mono ?_
  rintro e w4 ⟨v, rfl, hgot⟩
  have hf4 := hgot.2
  obtain ⟨a4, cap4, rfl, hb4, _, _, _⟩ := hgot.bytes
  clear hgot
  obtain ⟨d0, d1, d2, d3⟩ := SetBox.keep ⟨c0, c1, c2, c3⟩ hf4
  clear c0 c1 c2 c3
  go_wp2_with fail
  refine (same_yes a3 a4 cap3 cap4 (setBytes l p z n) w4 (by have := HS.out; omega) (hb3.keep hf4) hb4).mono ?_
  rintro e w5 ⟨rfl, hf5⟩
  obtain ⟨c0, c1, c2, c3⟩ := SetBox.keep ⟨d0, d1, d2, d3⟩ hf5
  clear d0 d1 d2 d3
  go_wp2_with fail
  refine (same_yes (some ⟨g, 0, none⟩) a cap c l w5 hl (((hb2.keep hf3).keep hf4).keep hf5) ((((((hb.keep hf0).keep hf1).keep hf2).keep hf3).keep hf4).keep hf5)).mono ?_
  rintro e w6 ⟨rfl, hf6⟩
  obtain ⟨d0, d1, d2, d3⟩ := SetBox.keep ⟨c0, c1, c2, c3⟩ hf6
  clear c0 c1 c2 c3
  have F6 := (((((hf0.trans hf1).trans hf2).trans hf3).trans hf4).trans hf5).trans hf6
  by_cases h0 : getErr l p z = 0
  · rcases get_cases l p z with h | ⟨wd, rfl, hw, hp, h⟩ | ⟨wd, q, rfl, rfl, hw, h⟩
    · rw [getErr_no h] at h0; omega
    · rw [getErr_short hw hp h] at h0; omega
    rw [h0]
    rw [setBytes_yes hw h] at hb3 hcap3 ⊢
    have HPL := Lib.hid (put_length l q (by8 wd n) (by rw [by8_length]; exact h))
    rw [HPL.out] at hcap3 ⊢ 
    go_wp2_with fail
    have hget := get_yes a3 cap3 (put l q (by8 wd n)) wd q w6 (by rw [HPL.out]; exact hl) (by rw [HPL.out]; exact hcap3) (((hb3.keep hf4).keep hf5).keep hf6) hw (by rw [HPL.out]; exact h)
    rw [put_get l q wd n h, HPL.out] at hget
    have HN1 := by8_again wd n
    have HN2 : be (by8 wd n) < 18446744073709551616 := by rw [be_by8]; exact Nat.lt_of_le_of_lt (Nat.mod_le _ _) hn
    generalize be (by8 wd n) = m at hget HN1 HN2
    refine hget.mono ?_
    rintro e w' ⟨rfl, rfl⟩
    clear hget hb hb2 hb3 hb4 hf0 hf1 hf2 hf3 hf4 hf5 hf6 hbx HS HPL hcap3 h0 d0 d1
    have HM := Lib.hid HN1
    have HM2 := Lib.hid HN2
    have HM3 := Lib.hid hn
    clear HN1 HN2 hn
    go_wp2_with fail
    go_region_held3 (fun w' => w'.cell? ⟨w.heap.size, 2, none⟩ = some (.int .i64 wd) ∧ w'.cell? ⟨w.heap.size, 3, none⟩ = some (.int .u64 (U n)) ∧ Fr [] w6 w')
      (first
        | exact held2_start (by assumption) (by assumption)
        | exact held2 (by assumption) hf7)
      (first
        | (go_at_call 16; refine (num_same wd _ n _ hw ?_ ?_).mono ?_; (first | exact HM2.out | exact HM3.out); (first | exact HM.out | exact rfl); rintro e w' ⟨g7, cap7, rfl, hb7, hf7⟩)
        | (go_at_call 15; refine (same_wd _ _ _ _ wd n _ hw ?_ ?_).mono ?_; (first | assumption | exact Bytes.keep (by assumption) (by assumption)); (first | assumption | exact Bytes.keep (by assumption) (by assumption)); rintro e w' ⟨rfl, hf7⟩))
    all_goals
      go_wp2
      go_ret
      exact ⟨rfl, F6.trans (third (by assumption))⟩
  · go_wp2
    go_ret
    exact ⟨rfl, F6⟩
end Go.Proofs.Ytnmfejlhbgockaa
