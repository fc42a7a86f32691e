/- The walk of the law RectwoNodeBytes. -/
import Derived.Test.YtmekplamjlnhcaaRecNL
import Derived.Test.YtmekplamjlnhcaaRecLB
namespace Go.Proofs.Ytmekplamjlnhcaa
open Go.RowKit
attribute [local go_sem ↓] Go.wp_at_zero Go.wp_at_succ
/-- what reading any bytes tells -/
def nodeErr (l : List UInt8) : Int := if l.length = 65 then (if nOk l then 0 else 41) else 4
def nodeVal (l : List UInt8) : NodeV := if l.length = 65 ∧ nOk l = true then nDec l else ⟨false, 0, 0, [], []⟩
theorem nodeErr0 {l : List UInt8} (h : nodeErr l = 0) : l.length = 65 ∧ nOk l = true ∧ nodeVal l = nDec l := by
  unfold nodeErr at h
  by_cases h1 : l.length = 65
  · by_cases h2 : nOk l = true
    · exact ⟨h1, h2, by unfold nodeVal; rw [if_pos ⟨h1, h2⟩]⟩
    · rw [if_pos h1, if_neg h2] at h; cases h
  · rw [if_neg h1] at h; cases h
theorem nodeVal_labs (l : List UInt8) : (nodeVal l).labs.length ≤ 8 := by
  unfold nodeVal
  by_cases h : l.length = 65 ∧ nOk l = true
  · rw [if_pos h]
    have h1 := labsOf_length (nLabs l)
    have h2 := nLabs_length l h.1
    show (labsOf (nLabs l)).length ≤ 8
    omega
  · rw [if_neg h]; simp
def NodeGot (B : Nat) (l : List UInt8) (e : Ending) (w w' : World) : Prop :=
  ∃ la lc sa sc, e = .returned (.tuple #[(nodeVal l).val (.slice la (nodeVal l).labs.length lc) (.slice sa (nodeVal l).sl.length sc), .int .i64 (nodeErr l)]) ∧ w'.ownsRow B 3 1 (.slice la (nodeVal l).labs.length lc) (nodeVal l).labs.length ((nodeVal l).labs.map (Value.int .i64)) ∧ w'.ownsRow B 5 1 (.slice sa (nodeVal l).sl.length sc) (nodeVal l).sl.length ((nodeVal l).sl.map B8) ∧ Fr [] w w'
set_option maxRecDepth 100000 in
theorem NodeGot.ok {B : Nat} {l : List UInt8} {x : Value} {w w' : World} (h : l.length = 65) (hg : GotNode B l x w') (hf : Fr [] w w') : NodeGot B l (.returned x) w w' := by
  unfold GotNode at hg
  unfold NodeGot nodeErr nodeVal
  by_cases hk : nOk l = true
  · rw [if_pos hk] at hg
    obtain ⟨lv, v, rfl, h1, h2, _⟩ := hg
    obtain ⟨la, lc, rfl, _⟩ := ints_of_own h1
    obtain ⟨sa, sc, rfl, _⟩ := Bytes.of_own h2
    rw [if_pos h, if_pos hk, if_pos ⟨h, hk⟩]
    exact ⟨la, lc, sa, sc, rfl, h1, h2, hf⟩
  · rw [if_neg hk] at hg
    subst hg
    rw [if_pos h, if_neg hk, if_neg (fun hh => hk hh.2)]
    exact ⟨none, 0, none, 0, rfl, World.ownsRow_nil w' B _ 1, World.ownsRow_nil w' B _ 1, hf⟩
set_option maxRecDepth 100000 in
theorem NodeGot.size {B : Nat} {l : List UInt8} {w w' : World} (h : l.length ≠ 65) (hf : Fr [] w w') : NodeGot B l (.returned (.tuple #[nZero, .int .i64 4])) w w' := by
  unfold NodeGot nodeErr nodeVal
  rw [if_neg h, if_neg (fun hh => h hh.1)]
  exact ⟨none, 0, none, 0, rfl, World.ownsRow_nil w' B _ 1, World.ownsRow_nil w' B _ 1, hf⟩
set_option maxRecDepth 100000 in
theorem GetNode_all (a : Option Addr) (c : Nat) (l : List UInt8) (w : World) (hb : Bytes w a l) :
    Calls Try.prog 28 #[.slice a l.length c] w fun e w' => NodeGot w.heap.size l e w w' := by
  by_cases h : l.length = 65
  · refine (GetNode_any a c l w h hb).mono ?_
    rintro e w' ⟨x, rfl, hg, hf⟩
    exact NodeGot.ok h hg hf
  · refine (GetNode_size a c l w h).mono ?_
    rintro e w' ⟨rfl, hf⟩
    exact NodeGot.size h hf
set_option maxRecDepth 100000 in
theorem refGetNode_all (a : Option Addr) (c : Nat) (l : List UInt8) (w : World) (hc : l.length ≤ c) (hb : Bytes w a l) :
    Calls Try.prog 29 #[.slice a l.length c] w fun e w' => NodeGot w.heap.size l e w w' := by
  by_cases h : l.length = 65
  · refine (refGetNode_any a c l w h hc hb).mono ?_
    rintro e w' ⟨x, rfl, hg, hf⟩
    exact NodeGot.ok h hg hf
  · refine (refGetNode_size a c l w h).mono ?_
    rintro e w' ⟨rfl, hf⟩
    exact NodeGot.size h hf
set_option maxRecDepth 100000 in
set_option maxHeartbeats 1600000 in
theorem rectwoNodeBytes_walk (a : Option Addr) (c : Nat) (l : List UInt8) (w : World) (hl : l.length ≤ 140737488351300) (hno : a = none → c = 0) (hc : l.length ≤ c) (hb : Bytes w a l) :
    Calls Try.prog 9 #[.slice a l.length c] w fun e w' => e = .returned (.bool true) ∧ Fr [] w w' := by
  have HB := Lib.hid hb
  have HNO := Lib.hid hno
  have HC := Lib.hid hc
  have HL0 := Lib.hid hl
  obtain ⟨er, her⟩ : ∃ er, er = nodeErr l := ⟨_, rfl⟩
  have h8 := nodeVal_labs l
  obtain ⟨r, hr⟩ : ∃ r, r = nodeVal l := ⟨_, rfl⟩
  rw [← hr] at h8
  have HR := Lib.hid hr
  have HE := Lib.hid her
  clear hb hno hc hl hr her
  go_enter Try.func9, Try.ntmps9
  go_wp2_with fail
  refine (speaks15 w).mono ?_
  rintro e w1 ⟨rfl, hf1⟩
  have HF1 := Lib.hid hf1
  clear hf1
  go_wp2_with fail
  refine (clone_any a c l w1 HL0.out HNO.out (HB.out.keep HF1.out)).mono ?_
  rintro e w2 ⟨v, rfl, hv⟩
  obtain ⟨g, cap, rfl, _, _, hbv, hfv⟩ := hv.bytes
  have HV2 := Lib.hid hbv
  have HF2 := Lib.hid (HF1.out.trans hfv)
  clear hv hbv hfv
  go_wp2_with fail
  refine (GetNode_all (some ⟨g, 0, none⟩) cap l w2 HV2.out).mono ?_
  rintro e w3 hg3
  unfold NodeGot at hg3
  rw [← HR.out, ← HE.out] at hg3
  obtain ⟨dn, fi, ov, LL, S⟩ := r
  simp only at h8
  obtain ⟨la, lc, sa, sc, rfl, hi3, hs3, hf3⟩ := hg3
  simp only [NodeV.val] at hi3 hs3 ⊢
  have HI3 := Lib.hid hi3
  have HS3 := Lib.hid hs3
  have HG3 := Lib.hid hf3
  have HF3 := Lib.hid (HF2.out.trans hf3)
  clear hi3 hs3 hf3
  go_wp2_with fail
  obtain ⟨w4, hw4⟩ : ∃ w4, w4 = w3.alloc (.cells #[.bool dn, .int .i64 fi, .int .i64 ov, .slice la LL.length lc, .slice sa S.length sc] 54) := ⟨_, rfl⟩
  rw [← hw4]
  have HG4 := Lib.hid (show Fr [] w3 w4 by rw [hw4]; exact (Fr.refl _ _).alloc _)
  have HO4 := Lib.hid (show w4.heap[w3.heap.size]? = some (.cells #[.bool dn, .int .i64 fi, .int .i64 ov, .slice la LL.length lc, .slice sa S.length sc] 54) by rw [hw4]; exact heap_alloc_new w3 _)
  have HF4 := Lib.hid (HF3.out.trans HG4.out)
  clear hw4
  refine (refGetNode_all a c l w4 HC.out (HB.out.keep HF4.out)).mono ?_
  rintro e w5 hg5
  unfold NodeGot at hg5
  rw [← HR.out, ← HE.out] at hg5
  obtain ⟨lb, ld, sb, sd, rfl, hi5, hs5, hf5⟩ := hg5
  simp only [NodeV.val] at hi5 hs5 ⊢
  have HI5 := Lib.hid hi5
  have HS5 := Lib.hid hs5
  have HF5 := Lib.hid (HF4.out.trans hf5)
  have HG5 := Lib.hid hf5
  clear hi5 hs5 hf5
  obtain ⟨w6, hw6⟩ : ∃ w6, w6 = w5.alloc (.cells #[.bool dn, .int .i64 fi, .int .i64 ov, .slice lb LL.length ld, .slice sb S.length sd] 54) := ⟨_, rfl⟩
  have hg6 : Fr [] w5 w6 := by rw [hw6]; exact (Fr.refl _ _).alloc _
  have hg36 : Fr [] w3 w6 := HG4.out.trans (HG5.out.trans hg6)
  have o4 := hg6.obj (HG5.out.obj HO4.out (by simp)) (by simp)
  have o6 : w6.heap[w5.heap.size]? = some (.cells #[.bool dn, .int .i64 fi, .int .i64 ov, .slice lb LL.length ld, .slice sb S.length sd] 54) := by rw [hw6]; exact heap_alloc_new w5 _
  have HO6 := Lib.hid o4
  have hn3 := own_none_ HS3.out
  have hn5 := own_none_ HS5.out
  have hi3 := ints_own_ (own_fr HI3.out hg36 (by simp))
  have hi5 := ints_own_ (own_fr HI5.out hg6 (by simp))
  have hb3 : Bytes w6 sa S := bytes_own_ (own_fr HS3.out hg36 (by simp))
  have hb5 : Bytes w6 sb S := bytes_own_ (own_fr HS5.out hg6 (by simp))
  have HSR := Lib.hid (SameNode_eq dn fi ov la lb lc ld LL sa sb sc sd S w6 (by omega) hi3 hi5 hn3 hn5 hb3 hb5)
  have HN3 := Lib.hid hn3
  have HB3 := Lib.hid hb3
  have HII3 := Lib.hid hi3
  have HVV := Lib.hid (HV2.out.keep (HG3.out.trans hg36))
  have HF6 := Lib.hid (HF5.out.trans hg6)
  have x0 := cell_of_row w6 _ 0 _ _ _ o4
  have x1 := cell_of_row w6 _ 1 _ _ _ o4
  have x2 := cell_of_row w6 _ 2 _ _ _ o4
  have x3 := cell_of_row w6 _ 3 _ _ _ o4
  have x4 := cell_of_row w6 _ 4 _ _ _ o4
  have y0 := cell_of_row w6 _ 0 _ _ _ o6
  have y1 := cell_of_row w6 _ 1 _ _ _ o6
  have y2 := cell_of_row w6 _ 2 _ _ _ o6
  have y3 := cell_of_row w6 _ 3 _ _ _ o6
  have y4 := cell_of_row w6 _ 4 _ _ _ o6
  rw [hw6] at x0 x1 x2 x3 x4 y0 y1 y2 y3 y4
  have HW6 := Lib.hid hw6
  clear hw6 hg6 hg36 o4 o6 hn3 hn5 hb3 hb5 hi3 hi5
  go_wp2_with fail
  rw [← HW6.out]
  refine HSR.out.mono ?_
  rintro e w7 ⟨rfl, hf7⟩
  have o7 := hf7.obj HO6.out (by simp)
  have HB7 := Lib.hid (HB3.out.keep hf7)
  have HII7 := Lib.hid (HII3.out.keep hf7)
  have HF7 := Lib.hid (HF6.out.trans hf7)
  have hs := same_any (some ⟨g, 0, none⟩) a cap c l l w7 (fun h => by cases h) HNO.out (HVV.out.keep hf7) (HB.out.keep HF7.out)
  rw [beq_self_eq_true] at hs
  have HS := Lib.hid hs
  clear x0 x1 x2 x3 x4 y0 y1 y2 y3 y4
  have x0 := cell_of_row w7 _ 0 _ _ _ o7
  have x1 := cell_of_row w7 _ 1 _ _ _ o7
  have x2 := cell_of_row w7 _ 2 _ _ _ o7
  have x3 := cell_of_row w7 _ 3 _ _ _ o7
  have x4 := cell_of_row w7 _ 4 _ _ _ o7
  clear o7 hf7 hs
  go_wp2_with fail
  refine HS.out.mono ?_
  rintro e w7' ⟨rfl, rfl⟩
  by_cases h0 : er = 0
  · obtain ⟨h65, hok, hval⟩ := nodeErr0 (HE.out.symm.trans h0)
    have hrd := HR.out.trans hval
    have hfin2 : nFine ⟨dn, fi, ov, LL, S⟩ = true := by rw [hrd]; exact nOk_fine2 hok
    have hrb : nB ⟨dn, fi, ov, LL, S⟩ = l := by rw [hrd]; exact nB_nDec h65 hok
    have hp := PutNode_yes dn fi ov la lc LL sa sc S w7 HII7.out HN3.out HB7.out hfin2
    rw [hrb] at hp
    have HP := Lib.hid hp
    subst h0
    clear hp hrb hfin2 hrd hval hok h65
    go_wp2_with fail
    refine HP.out.mono ?_
    rintro e w8 ⟨v, rfl, hv⟩
    obtain ⟨g8, cap8, rfl, _, _, hb8, hf8⟩ := hv.bytes
    have hs := same_any (some ⟨g8, 0, none⟩) a cap8 c l l w8 (fun h => by cases h) HNO.out hb8 (HB.out.keep (HF7.out.trans hf8))
    rw [beq_self_eq_true] at hs
    have HS := Lib.hid hs
    have HF8 := Lib.hid (HF7.out.trans hf8)
    clear hv hb8 hf8 hs
    go_wp2_with fail
    refine HS.out.mono ?_
    rintro e w9 ⟨rfl, rfl⟩
    go_wp2
    go_ret
    exact ⟨rfl, HF8.out⟩
  · have hb0 : (er != 0) = true := by simp [h0]
    go_wp2
    go_ret
    exact ⟨rfl, HF7.out⟩
end Go.Proofs.Ytmekplamjlnhcaa
