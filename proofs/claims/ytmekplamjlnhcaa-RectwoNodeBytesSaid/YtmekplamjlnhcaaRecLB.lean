/- The walk of the law RectwoRelBytes. -/
import Derived.Test.YtmekplamjlnhcaaRecL
import Derived.Test.YtmekplamjlnhcaaRecP
namespace Go.Proofs.Ytmekplamjlnhcaa
open Go.RowKit
attribute [local go_sem ↓] Go.wp_at_zero Go.wp_at_succ
theorem own_none_ {w : World} {B e n cap m : Nat} {a : Option Addr} {xs : List Value} (h : w.ownsRow B e 1 (.slice a n cap) m xs) : a = none → cap = 0 := by
  intro ha
  rcases h.2 with ⟨e1, _⟩ | ⟨g, cap', cur, e1, _⟩
  · simp only [Value.slice.injEq] at e1; exact e1.2.2
  · simp only [Value.slice.injEq] at e1; rw [ha] at e1; cases e1.1
theorem bytes_own_ {w : World} {B e : Nat} {a : Option Addr} {n cap : Nat} {l : List UInt8} (h : w.ownsRow B e 1 (.slice a n cap) l.length (l.map B8)) : Bytes w a l := by
  obtain ⟨a', cap', e, hb, _⟩ := Bytes.of_own h
  simp only [Value.slice.injEq] at e
  obtain ⟨rfl, _, rfl⟩ := e
  exact hb
/-- what reading any bytes tells -/
def relErr (l : List UInt8) : Int := if l.length = 62 then (if rFine (rDec l) then 0 else 41) else 4
def relVal (l : List UInt8) : RelV := if l.length = 62 ∧ rFine (rDec l) = true then rDec l else ⟨false, 0, 0, 0, 0, 0, 0, 0, 0, []⟩
theorem relErr0 {l : List UInt8} (h : relErr l = 0) : l.length = 62 ∧ rFine (rDec l) = true ∧ relVal l = rDec l := by
  unfold relErr at h
  by_cases h1 : l.length = 62
  · by_cases h2 : rFine (rDec l) = true
    · exact ⟨h1, h2, by unfold relVal; rw [if_pos ⟨h1, h2⟩]⟩
    · rw [if_pos h1, if_neg h2] at h; cases h
  · rw [if_neg h1] at h; cases h
def RelGot (B : Nat) (l : List UInt8) (e : Ending) (w w' : World) : Prop :=
  ∃ sa sc, e = .returned (.tuple #[(relVal l).val (.slice sa (relVal l).sl.length sc), .int .i64 (relErr l)]) ∧ w'.ownsRow B 5 1 (.slice sa (relVal l).sl.length sc) (relVal l).sl.length ((relVal l).sl.map B8) ∧ Fr [] w w'
set_option maxRecDepth 100000 in
theorem RelGot.ok {B : Nat} {l : List UInt8} {x : Value} {w w' : World} (h : l.length = 62) (hg : GotRel B l x w') (hf : Fr [] w w') : RelGot B l (.returned x) w w' := by
  unfold GotRel at hg
  unfold RelGot relErr relVal
  by_cases hk : rFine (rDec l) = true
  · rw [if_pos hk] at hg
    obtain ⟨v, rfl, h2⟩ := hg
    obtain ⟨sa, sc, rfl, _⟩ := Bytes.of_own h2
    rw [if_pos h, if_pos hk, if_pos ⟨h, hk⟩]
    exact ⟨sa, sc, rfl, h2, hf⟩
  · rw [if_neg hk] at hg
    subst hg
    rw [if_pos h, if_neg hk, if_neg (fun hh => hk hh.2)]
    exact ⟨none, 0, rfl, World.ownsRow_nil w' B _ 1, hf⟩
set_option maxRecDepth 100000 in
theorem RelGot.size {B : Nat} {l : List UInt8} {w w' : World} (h : l.length ≠ 62) (hf : Fr [] w w') : RelGot B l (.returned (.tuple #[rZero, .int .i64 4])) w w' := by
  unfold RelGot relErr relVal
  rw [if_neg h, if_neg (fun hh => h hh.1)]
  exact ⟨none, 0, rfl, World.ownsRow_nil w' B _ 1, hf⟩
set_option maxRecDepth 100000 in
theorem GetRel_all (a : Option Addr) (c : Nat) (l : List UInt8) (w : World) (hb : Bytes w a l) :
    Calls Try.prog 16 #[.slice a l.length c] w fun e w' => RelGot w.heap.size l e w w' := by
  by_cases h : l.length = 62
  · refine (GetRel_any a c l w h hb).mono ?_
    rintro e w' ⟨x, rfl, hg, hf⟩
    exact RelGot.ok h hg hf
  · refine (GetRel_size a c l w h).mono ?_
    rintro e w' ⟨rfl, hf⟩
    exact RelGot.size h hf
set_option maxRecDepth 100000 in
theorem refGetRel_all (a : Option Addr) (c : Nat) (l : List UInt8) (w : World) (hc : l.length ≤ c) (hb : Bytes w a l) :
    Calls Try.prog 19 #[.slice a l.length c] w fun e w' => RelGot w.heap.size l e w w' := by
  by_cases h : l.length = 62
  · refine (refGetRel_any a c l w h hc hb).mono ?_
    rintro e w' ⟨x, rfl, hg, hf⟩
    exact RelGot.ok h hg hf
  · refine (refGetRel_size a c l w h).mono ?_
    rintro e w' ⟨rfl, hf⟩
    exact RelGot.size h hf
set_option maxRecDepth 100000 in
set_option maxHeartbeats 1600000 in
theorem rectwoRelBytes_walk (a : Option Addr) (c : Nat) (l : List UInt8) (w : World) (hl : l.length ≤ 140737488351300) (hno : a = none → c = 0) (hc : l.length ≤ c) (hb : Bytes w a l) :
    Calls Try.prog 5 #[.slice a l.length c] w fun e w' => e = .returned (.bool true) ∧ Fr [] w w' := by
  have HB := Lib.hid hb
  have HNO := Lib.hid hno
  have HC := Lib.hid hc
  have HL0 := Lib.hid hl
  obtain ⟨er, her⟩ : ∃ er, er = relErr l := ⟨_, rfl⟩
  obtain ⟨r, hr⟩ : ∃ r, r = relVal l := ⟨_, rfl⟩
  have HR := Lib.hid hr
  have HE := Lib.hid her
  clear hb hno hc hl hr her
  go_enter Try.func5, Try.ntmps5
  go_wp2_with fail
  refine (speaks15 w).mono ?_
  rintro e w1 ⟨rfl, hf1⟩
  have HF1 := Lib.hid hf1
  clear hf1
  go_wp2_with fail
  refine (clone_any a c l w1 HL0.out HNO.out (HB.out.keep HF1.out)).mono ?_
  rintro e w2 ⟨v, rfl, hv⟩
  obtain ⟨g, cap, rfl, _, _, hbv, hfv⟩ := hv.bytes
  have HV2 := Lib.hid hbv
  have HF2 := Lib.hid (HF1.out.trans hfv)
  clear hv hbv hfv
  go_wp2_with fail
  refine (GetRel_all (some ⟨g, 0, none⟩) cap l w2 HV2.out).mono ?_
  rintro e w3 hg3
  unfold RelGot at hg3
  rw [← HR.out, ← HE.out] at hg3
  obtain ⟨lv, fr, to, fp, tp, fn, tn, ty, ov, S⟩ := r
  obtain ⟨sa, sc, rfl, hs3, hf3⟩ := hg3
  simp only [RelV.val] at hs3 ⊢
  have HS3 := Lib.hid hs3
  have HF3 := Lib.hid (HF2.out.trans hf3)
  clear hs3 hf3
  go_wp2_with fail
  obtain ⟨w4, hw4⟩ : ∃ w4, w4 = w3.alloc (.cells #[.bool lv, .int .i64 fr, .int .i64 to, .int .i64 fp, .int .i64 tp, .int .i64 fn, .int .i64 tn, .int .i64 ty, .int .i64 ov, .slice sa S.length sc] 27) := ⟨_, rfl⟩
  rw [← hw4]
  have HG4 := Lib.hid (show Fr [] w3 w4 by rw [hw4]; exact (Fr.refl _ _).alloc _)
  have HO4 := Lib.hid (show w4.heap[w3.heap.size]? = some (.cells #[.bool lv, .int .i64 fr, .int .i64 to, .int .i64 fp, .int .i64 tp, .int .i64 fn, .int .i64 tn, .int .i64 ty, .int .i64 ov, .slice sa S.length sc] 27) by rw [hw4]; exact heap_alloc_new w3 _)
  have HF4 := Lib.hid (HF3.out.trans HG4.out)
  clear hw4
  refine (refGetRel_all a c l w4 HC.out (HB.out.keep HF4.out)).mono ?_
  rintro e w5 hg5
  unfold RelGot at hg5
  rw [← HR.out, ← HE.out] at hg5
  obtain ⟨sb, sd, rfl, hs5, hf5⟩ := hg5
  simp only [RelV.val] at hs5 ⊢
  have HS5 := Lib.hid hs5
  have HF5 := Lib.hid (HF4.out.trans hf5)
  have HG5 := Lib.hid hf5
  clear hs5 hf5
  obtain ⟨w6, hw6⟩ : ∃ w6, w6 = w5.alloc (.cells #[.bool lv, .int .i64 fr, .int .i64 to, .int .i64 fp, .int .i64 tp, .int .i64 fn, .int .i64 tn, .int .i64 ty, .int .i64 ov, .slice sb S.length sd] 27) := ⟨_, rfl⟩
  have hg6 : Fr [] w5 w6 := by rw [hw6]; exact (Fr.refl _ _).alloc _
  have o4 := hg6.obj (HG5.out.obj HO4.out (by simp)) (by simp)
  have o6 : w6.heap[w5.heap.size]? = some (.cells #[.bool lv, .int .i64 fr, .int .i64 to, .int .i64 fp, .int .i64 tp, .int .i64 fn, .int .i64 tn, .int .i64 ty, .int .i64 ov, .slice sb S.length sd] 27) := by rw [hw6]; exact heap_alloc_new w5 _
  have HO6 := Lib.hid o4
  have hn3 := own_none_ HS3.out
  have hn5 := own_none_ HS5.out
  have hb3 : Bytes w6 sa S := bytes_own_ (own_fr HS3.out (HG4.out.trans (HG5.out.trans hg6)) (by simp))
  have hb5 : Bytes w6 sb S := bytes_own_ (own_fr HS5.out hg6 (by simp))
  have HSR := Lib.hid (SameRel_any lv fr to fp tp fn tn ty ov lv fr to fp tp fn tn ty ov sa sb sc sd S S w6 hn3 hn5 hb3 hb5 rfl)
  have HN3 := Lib.hid hn3
  have HB3 := Lib.hid hb3
  have HF6 := Lib.hid (HF5.out.trans hg6)
  have x0 := cell_of_row w6 _ 0 _ _ _ o4
  have x1 := cell_of_row w6 _ 1 _ _ _ o4
  have x2 := cell_of_row w6 _ 2 _ _ _ o4
  have x3 := cell_of_row w6 _ 3 _ _ _ o4
  have x4 := cell_of_row w6 _ 4 _ _ _ o4
  have x5 := cell_of_row w6 _ 5 _ _ _ o4
  have x6 := cell_of_row w6 _ 6 _ _ _ o4
  have x7 := cell_of_row w6 _ 7 _ _ _ o4
  have x8 := cell_of_row w6 _ 8 _ _ _ o4
  have x9 := cell_of_row w6 _ 9 _ _ _ o4
  have y0 := cell_of_row w6 _ 0 _ _ _ o6
  have y1 := cell_of_row w6 _ 1 _ _ _ o6
  have y2 := cell_of_row w6 _ 2 _ _ _ o6
  have y3 := cell_of_row w6 _ 3 _ _ _ o6
  have y4 := cell_of_row w6 _ 4 _ _ _ o6
  have y5 := cell_of_row w6 _ 5 _ _ _ o6
  have y6 := cell_of_row w6 _ 6 _ _ _ o6
  have y7 := cell_of_row w6 _ 7 _ _ _ o6
  have y8 := cell_of_row w6 _ 8 _ _ _ o6
  have y9 := cell_of_row w6 _ 9 _ _ _ o6
  rw [hw6] at x0 x1 x2 x3 x4 x5 x6 x7 x8 x9 y0 y1 y2 y3 y4 y5 y6 y7 y8 y9
  have HW6 := Lib.hid hw6
  clear hw6 hg6 o4 o6 hn3 hn5 hb3 hb5
  go_wp2_with fail
  rw [← HW6.out]
  refine HSR.out.mono ?_
  rintro e w7 ⟨rfl, hf7⟩
  have o7 := hf7.obj HO6.out (by simp)
  have HB7 := Lib.hid (HB3.out.keep hf7)
  have HF7 := Lib.hid (HF6.out.trans hf7)
  clear x0 x1 x2 x3 x4 x5 x6 x7 x8 x9 y0 y1 y2 y3 y4 y5 y6 y7 y8 y9
  have x0 := cell_of_row w7 _ 0 _ _ _ o7
  have x1 := cell_of_row w7 _ 1 _ _ _ o7
  have x2 := cell_of_row w7 _ 2 _ _ _ o7
  have x3 := cell_of_row w7 _ 3 _ _ _ o7
  have x4 := cell_of_row w7 _ 4 _ _ _ o7
  have x5 := cell_of_row w7 _ 5 _ _ _ o7
  have x6 := cell_of_row w7 _ 6 _ _ _ o7
  have x7 := cell_of_row w7 _ 7 _ _ _ o7
  have x8 := cell_of_row w7 _ 8 _ _ _ o7
  have x9 := cell_of_row w7 _ 9 _ _ _ o7
  clear o7 hf7
  by_cases h0 : er = 0
  · obtain ⟨h62, hfin, hval⟩ := relErr0 (HE.out.symm.trans h0)
    have hrd := HR.out.trans hval
    have hfin2 : rFine ⟨lv, fr, to, fp, tp, fn, tn, ty, ov, S⟩ = true := by rw [hrd]; exact hfin
    have hrb : rB ⟨lv, fr, to, fp, tp, fn, tn, ty, ov, S⟩ = l := by rw [hrd]; exact rB_rDec l h62
    have hp := PutRel_yes lv fr to fp tp fn tn ty ov sa sc S w7 hfin2 HN3.out HB7.out
    rw [hrb] at hp
    have HP := Lib.hid hp
    subst h0
    clear hp hrb hfin2 hrd hval hfin h62
    go_wp2_with fail
    refine HP.out.mono ?_
    rintro e w8 ⟨v, rfl, hv⟩
    obtain ⟨g8, cap8, rfl, _, _, hb8, hf8⟩ := hv.bytes
    have hs := same_any (some ⟨g8, 0, none⟩) a cap8 c l l w8 (fun h => by cases h) HNO.out hb8 (HB.out.keep (HF7.out.trans hf8))
    rw [beq_self_eq_true] at hs
    have HS := Lib.hid hs
    have HF8 := Lib.hid (HF7.out.trans hf8)
    clear hv hb8 hf8 hs
    go_wp2_with fail
    refine HS.out.mono ?_
    rintro e w9 ⟨rfl, rfl⟩
    go_wp2
    go_ret
    exact ⟨rfl, HF8.out⟩
  · have hb0 : (er != 0) = true := by simp [h0]
    go_wp2
    go_ret
    exact ⟨rfl, HF7.out⟩
end Go.Proofs.Ytmekplamjlnhcaa
