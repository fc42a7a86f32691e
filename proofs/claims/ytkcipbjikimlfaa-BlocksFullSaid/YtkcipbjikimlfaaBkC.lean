/- Blocks: parse, sound. -/
import Derived.Test.YtkcipbjikimlfaaBkA
namespace Go.Proofs.Ytkcipbjikimlfaa
open Go.RowKit
attribute [local go_sem ↓] Go.wp_at_zero Go.wp_at_succ
theorem results_row1 {P : Program} {fn : Func} {p : Tmp} {ty : TypeId} (h : fn.results = #[.cell p ty]) (tmps : Array Value) (w : World) (g T : Nat) (cs : Array Value) (d : TypeDesc)
    (hp : tmps.getD p undef = .pointer (some ⟨g, 0, none⟩)) (hg : w.heap[g]? = some (.cells cs T))
    (hu : P.underlying ty = some d) (hd : (match d with | .struct _ | .array _ _ => true | _ => false) = true) (hi : (P.info? ty).map (·.size) = some cs.size) :
    (results fn tmps).run P w = .ok (.agg cs) w := by
  have hl := run_loadVar_row w g T ty cs (0, 0) d hg hu hd hi
  have key : (results fn tmps).run P w = ((asAddr (tmps.getD p undef)).run P w).andThen fun a w₁ => (loadVar ty a).run P w₁ := by
    simp only [results, h]
    simp [Sem.run_bind, Result.andThen]
  rw [key, hp]
  simp [asAddr, hl]
theorem wrapB (l : List UInt8) (q wd : Nat) (h : wd ≤ 4) : IntKind.i64.wrap (nm l q wd : Int) = (nm l q wd : Int) := IntWalk.i64_in _ (by have := nm_le l q wd h; omega)
theorem infoBk : (Try.prog.info? 42).map (·.size) = some 4 := by kernel_rfl
theorem fourFz {w : World} {b T : Nat} {c0 c1 c2 c3 : Value} (h : w.heap[b]? = some (.cells #[c0, c1, c2, c3] T)) : w.frozen? ⟨b, 0, none⟩ = false ∧ w.frozen? ⟨b, 1, none⟩ = false ∧ w.frozen? ⟨b, 2, none⟩ = false ∧ w.frozen? ⟨b, 3, none⟩ = false :=
  ⟨frozen_of_row _ _ 0 _ _ h, frozen_of_row _ _ 1 _ _ h, frozen_of_row _ _ 2 _ _ h, frozen_of_row _ _ 3 _ _ h⟩
/-- what a record of 31 bytes says -/
def pSt (d : List UInt8) : Nat := nm d 0 1
def pUs (d : List UInt8) : Nat := nm d 1 1
def pNx (d : List UInt8) : Int := (nm d 2 4 : Int) - 1
def pDa (d : List UInt8) : List UInt8 := (d.drop 6).take 25
theorem pDa_length {d : List UInt8} (h : d.length = 31) : (pDa d).length = 25 := by unfold pDa; rw [List.length_take, List.length_drop, h]; rfl
set_option maxRecDepth 100000 in
set_option maxHeartbeats 1600000 in
theorem parse_F (a : Option Addr) (c : Nat) (l : List UInt8) (w : World) (h : l.length = 31) (hb : Bytes w a l) :
    Calls Try.prog 19 #[.slice a l.length c] w fun e w' => ∃ v, e = .returned (.agg #[.int .i64 (pSt l), .int .i64 (pUs l), .int .i64 (pNx l), v]) ∧ w'.ownsRow w.heap.size 5 1 v 25 ((pDa l).map B8) ∧ Fr [] w w' := by
  have HL := Lib.hid h
  have hle : l.length ≤ 100 := by omega
  have HB := Lib.hid hb
  clear hb h
  have i1 := wrapB l 0 1 (by omega)
  have i2 := wrapB l 1 1 (by omega)
  have i3 := wrapB l 2 4 (by omega)
  have i4 : IntKind.i64.wrap ((nm l 2 4 : Int) - 1) = (nm l 2 4 : Int) - 1 := IntWalk.i64_in _ (by have := nm_le l 2 4 (by omega); omega)
  go_enter Try.func19, Try.ntmps19
  go_wp2_with fail
  refine (NewR a c l _ (by omega) (by have := HL.out; omega) (HB.out.keep ((Fr.refl _ _).alloc _))).mono ?_
  rintro e w1 ⟨p, g, rfl, hr, hg, hgp, hf⟩
  have hz := hf.obj (heap_alloc_new w (.cells #[.int .i64 0, .int .i64 0, .int .i64 0, .slice none 0 0] 42)) (by simp)
  have HZ1 := Lib.hid hz
  have HF1 := Lib.hid (((Fr.refl [] w).alloc _).trans hf)
  have hgw : w.heap.size < g := by simp at hg; omega
  have HR1 := Lib.hid hr
  have hp1 := hr.lt
  clear hr hf hz hg
  go_wp2_with fail
  refine (NumR w1 p g l 0 1 HR1.out (by omega) (by unfold Wd; omega) (by omega) (by have := HL.out; omega)).mono ?_
  rintro e w2 ⟨rfl, hr, hf⟩
  have HR2 := Lib.hid hr
  have HF2 := Lib.hid hf
  clear hr hf
  go_wp2_with fail
  refine (NumR w2 p g l _ 1 HR2.out (by omega) (by unfold Wd; omega) (by omega) (by have := HL.out; omega)).mono ?_
  rintro e w3 ⟨rfl, hr, hf⟩
  have HR3 := Lib.hid hr
  have HF3 := Lib.hid (HF2.out.trans hf)
  clear hr hf
  go_wp2_with fail
  refine (NumR w3 p g l _ 4 HR3.out (by omega) (by unfold Wd; omega) (by omega) (by have := HL.out; omega)).mono ?_
  rintro e w4 ⟨rfl, hr, hf⟩
  have HR4 := Lib.hid hr
  have HF4 := Lib.hid (HF3.out.trans hf)
  clear hr hf
  go_wp2_with fail
  generalize hag : nm l 0 1 = A0 at *
  generalize hau : nm l 1 1 = A1 at *
  generalize han : (nm l 2 4 : Int) - 1 = A2 at *
  obtain ⟨w5, hw5⟩ : ∃ w5, w5 = w4.alloc (.cells #[.int .i64 A0, .int .i64 A1, .int .i64 A2, .slice none 0 0] 42) := ⟨_, rfl⟩
  rw [← hw5]
  have hf5 : Fr [] w4 w5 := by rw [hw5]; exact (Fr.refl _ _).alloc _
  have ho5 : w5.heap[w4.heap.size]? = some (.cells #[.int .i64 A0, .int .i64 A1, .int .i64 A2, .slice none 0 0] 42) := by rw [hw5]; exact heap_alloc_new w4 _
  have hz4 := HF4.out.obj HZ1.out (by simp; omega)
  have hs14 := HF4.out.size
  clear hw5
  refine (RawR w5 p g l _ 25 (HR4.out.fr hf5 (by simp) (by simp)) (by omega) (by have := HL.out; simp; omega)).mono ?_
  rintro e w6 ⟨v, rfl, hown, hr6, hf6⟩
  have hqq : (l.drop (0 + 1 + 1 + 4)).take 25 = pDa l := rfl
  rw [hqq, pDa_length HL.out] at hown
  have HOW := Lib.hid hown
  have HSZ5 := Lib.hid hf5.size
  have HS := Lib.hid (show w4.heap.size < w5.heap.size from (Array.getElem?_eq_some_iff.1 ho5).1)
  have HF6 := Lib.hid (HF4.out.trans ((hf5.mono (T := [p]) (by simp)).trans hf6))
  have HO6 := Lib.hid (hf6.obj ho5 (by simp; omega))
  have hz6 := hf6.obj (hf5.obj hz4 (by simp)) (by simp; omega)
  have HZ6 := Lib.hid hz6
  have HS6 := Lib.hid hf6.size
  obtain ⟨sa, sc, hv, -⟩ := Bytes.of_own (l := pDa l) (by rw [pDa_length HL.out]; exact hown)
  rw [pDa_length HL.out] at hv
  subst hv
  have y3f := (fourFz HO6.out).2.2.2
  have hne : w.heap.size ≠ w4.heap.size := by omega
  have HNE := Lib.hid hne
  clear hown hr6 hf6 hqq ho5 hf5 hz4 hz6 hs14
  obtain ⟨x0, x1, x2, x3⟩ := fourB HO6.out
  obtain ⟨z0, z1, z2, z3⟩ := fourB HZ6.out
  obtain ⟨f0, f1, f2, f3⟩ := fourFz HZ6.out
  go_wp2_with fail
  have hs := HS.out
  have hs1 := HF6.out.size
  have hs0 := HF1.out.size
  have hs4 := HF4.out.size
  obtain ⟨w7, hw7⟩ : ∃ w7, w7 = w6.setCell ⟨w4.heap.size, 3, none⟩ (.slice sa 25 sc) := ⟨_, rfl⟩
  have hf7 : Fr [w4.heap.size, w.heap.size] w6 w7 := by rw [hw7]; exact (Fr.refl _ _).setCell (by simp) _
  have ho7 : w7.heap[w.heap.size]? = some (.cells #[.int .i64 0, .int .i64 0, .int .i64 0, .slice none 0 0] 42) := by rw [hw7]; exact ((Fr.refl [w4.heap.size] w6).setCell (p := ⟨w4.heap.size, 3, none⟩) (by simp) _).obj HZ6.out (by simpa using HNE.out)
  have hf8 : Fr [w4.heap.size, w.heap.size] w6 (w7.setCells w.heap.size 0 [.int .i64 A0, .int .i64 A1, .int .i64 A2, .slice sa 25 sc]) := Fr.setCells (by simp) _ 0 _ hf7
  refine bodyPost_ret (v := .agg #[.int .i64 A0, .int .i64 A1, .int .i64 A2, .slice sa 25 sc]) ?_ rfl ⟨.slice sa 25 sc, ?_, own_base (own_fr HOW.out (by rw [hw7] at hf8; exact hf8) fun i hi => ?_) (by omega), ?_⟩
  · rw [← hw7]
    exact results_row1 Try.results19 _ _ w.heap.size 42 _ _ rfl (obj_setCells ho7 [.int .i64 A0, .int .i64 A1, .int .i64 A2, .slice sa 25 sc] rfl) Try.underlying42 rfl infoBk
  · rw [← hag, ← hau, ← han]; rfl
  · have := (own_lt HOW.out hi).1
    simp
    omega
  · rw [hw7] at hf8
    exact HF1.out.next ((HF6.out.mono (T := [p, w4.heap.size, w.heap.size]) (by simp)).trans (hf8.mono (by simp))) (by intro i hi hlt; simp at hi; omega)
theorem I80 : I8 0 = 0 := by rw [show (0 : UInt8) = UInt8.ofNat 0 from rfl, I8_of_nat 0 (by decide)]; rfl
/-- is a block right by itself? -/
def soundV (R : Recs) (st us : Nat) (nx : Int) (D : List UInt8) : Bool :=
  decide (st ≤ 1) && (decide (us ≤ 25) && ((D.drop us).all (fun x => x == 0) && (if nx = -1 then decide (st = 1 ∨ 0 < us) else decide (us = 25) && usedR R nx)))
set_option maxRecDepth 100000 in
set_option maxHeartbeats 3200000 in
theorem sound_F (B : Nat) (bs : List Nat) (w : World) (p : Nat) (s : RFS) (h : RF B bs w p s) (st us : Nat) (nx : Int) (a : Option Addr) (c : Nat) (D : List UInt8) (hst : st ≤ 255) (hus : us ≤ 255) (hnx : -1 ≤ nx) (hnx2 : nx ≤ 4294967295) (hD : D.length = 25) (hc : 25 ≤ c) (hb : Bytes w a D) :
    Calls Try.prog 20 #[.agg #[.int .i64 st, .int .i64 us, .int .i64 nx, .slice a 25 c], .pointer (some ⟨p, 0, none⟩)] w fun e w' => e = .returned (.bool (soundV s.R st us nx D)) ∧ Fr [] w w' := by
  obtain ⟨gb, ob, rfl, hcell⟩ := hb.at (by omega)
  rw [hD] at hcell
  have HR := Lib.hid h
  have HC := Lib.hid hcell
  clear h hb hcell
  obtain ⟨wb, hwb⟩ : ∃ wb, wb = w.alloc (.cells #[.int .i64 st, .int .i64 us, .int .i64 nx, .slice (some ⟨gb, ob, none⟩) 25 c] 42) := ⟨_, rfl⟩
  have HBX := Lib.hid (show wb.heap[w.heap.size]? = some (.cells #[.int .i64 st, .int .i64 us, .int .i64 nx, .slice (some ⟨gb, ob, none⟩) 25 c] 42) by rw [hwb]; exact heap_alloc_new w _)
  have HFB := Lib.hid (show Fr [] w wb by rw [hwb]; exact (Fr.refl _ _).alloc _)
  have HCB : Hid (∀ j, j < 25 → wb.cell? ⟨gb, ob + j, none⟩ = some (.int .u8 (I8 (D.getD j 0)))) := Lib.hid fun j hj => HFB.out.cell (HC.out j hj) (by simp)
  have HWB := Lib.hid hwb
  clear hwb
  by_cases h1 : st ≤ 1
  · have h1i : ¬ (1 : Int) < (st : Int) := by omega
    by_cases h2 : us ≤ 25
    · have h2i : ¬ (25 : Int) < (us : Int) := by omega
      have h2j : (us : Int) ≤ 25 := by omega
      have h0j : (0 : Int) ≤ (us : Int) := by omega
      obtain ⟨x0, x1, x2, x3⟩ := fourB HBX.out
      obtain ⟨m, hm⟩ : ∃ m, m = 25 - us := ⟨_, rfl⟩
      have hn2 : ((25 : Int) - (us : Int)).toNat = m := by omega
      have hn3 : 25 - us = m := by omega
      have HM := Lib.hid (show us + m = 25 by omega)
      clear hm
      go_enter Try.func20, Try.ntmps20
      go_upto_region 3 with fail
      rw [← HWB.out]
      have HCC := Lib.hid hc
      go_cut [21, 22, 23] (fun sv nv iv wx => ∃ pa pc, sv = .slice pa m pc ∧ nv = .int .i64 m ∧ iv = .int .i64 0 ∧ wx = wb ∧ (0 < m → pa = some ⟨gb, ob + us, none⟩))
      case first =>
        by_cases hcu : c = us
        · subst hcu
          go_wp2_with fail
          go_meet
          exact ⟨_, _, rfl, rfl, rfl, rfl, fun h => by omega⟩
        · go_wp2_with fail
          go_meet
          exact ⟨_, _, rfl, rfl, rfl, rfl, fun _ => rfl⟩
      obtain ⟨pa, pc, rfl, rfl, rfl, hwx, hpa⟩ := hcut
      have hwx' := hwx.symm
      subst hwx'
      have HPA := Lib.hid hpa
      clear hpa
      go_wp2_with fail
      have HZ : ∀ i, i < m → wb.cell? ⟨gb, ob + us + i, none⟩ = some (.int .u8 (I8 (D.getD (us + i) 0))) := fun i hi => by
        have h := HCB.out (us + i) (by have := HM.out; omega)
        rw [← Nat.add_assoc] at h
        exact h
      have HZZ := Lib.hid HZ
      clear HZ
      go_loopw [23] (fun q wr => ∃ i : Nat, i ≤ m ∧ q = .int .i64 i ∧ wr = wb ∧ ∀ j, j < i → D.getD (us + j) 0 = 0) (fun q _ => m - (intOf q).toNat)
      case atStart => exact ⟨0, by omega, rfl, rfl, fun j hj => absurd hj (by omega)⟩
      case round =>
        obtain ⟨i, hi, rfl, hwr, hz⟩ := hrel
        have hwr' := hwr.symm
        subst hwr'
        have HZ0 := Lib.hid hz
        clear hz
        by_cases hlt : i < m
        · have hii : (i : Int) < (m : Int) := by omega
          have hi0 : (0 : Int) ≤ (i : Int) := by omega
          have hpa := HPA.out (by omega)
          subst hpa
          have c1 := HZZ.out i hlt
          have e1 : IntKind.i64.wrap ((i : Int) + 1) = (i : Int) + 1 := IntWalk.i64_in _ (by have := HM.out; omega)
          obtain ⟨z, hzz⟩ : ∃ z, z = D.getD (us + i) 0 := ⟨_, rfl⟩
          rw [← hzz] at c1
          have HZI := Lib.hid hzz
          clear hzz
          by_cases h3 : z = 0
          · have h3i : (I8 z != 0) = false := by rw [h3, I80]; rfl
            have H3 := Lib.hid h3
            clear h3
            go_wp2_with fail
            refine ⟨⟨i + 1, by omega, by go_num, by trivial, fun j hj => ?_⟩, by simp [intOf] <;> omega⟩
            by_cases h : j < i
            · exact HZ0.out j h
            · rw [show j = i by omega, ← HZI.out, H3.out]
          · have h3i : (I8 z != 0) = true := by rw [bne_iff_ne]; intro h; exact h3 (I8_inj (h.trans I80.symm))
            go_wp2_with fail
            go_ret
            refine ⟨?_, HFB.out⟩
            have : (D.drop us).all (fun x => x == 0) = false := by
              rw [List.all_eq_false]
              refine ⟨z, ?_, by simpa using h3⟩
              rw [List.mem_iff_getElem?]
              refine ⟨i, ?_⟩
              have := HM.out
              rw [List.getElem?_drop, HZI.out, List.getD_eq_getElem?_getD, List.getElem?_eq_getElem (by omega)]
              rfl
            rw [soundV, this]
            simp
        · obtain rfl : m = i := by omega
          have hii : ¬ (m : Int) < (m : Int) := by omega
          have HAL : Hid ((D.drop us).all (fun x => x == 0) = true) := Lib.hid (by
            rw [List.all_eq_true]
            intro x hx
            obtain ⟨j, hj⟩ := List.mem_iff_getElem?.1 hx
            have h1 := (List.getElem?_eq_some_iff.1 hj).1
            rw [List.length_drop] at h1
            have := HZ0.out j (by have := HM.out; omega)
            rw [List.getElem?_drop] at hj
            rw [List.getD_eq_getElem?_getD, hj] at this
            simpa using this)
          clear HZ0
          obtain ⟨x0, x1, x2, x3⟩ := fourB HBX.out
          by_cases hn : nx = -1
          · subst hn
            by_cases h4 : st = 1
            · subst h4
              go_wp2_with fail
              go_ret
              refine ⟨?_, HFB.out⟩
              rw [soundV, HAL.out, decide_eq_true h2]
              simp
            · have h4i : ((st : Int) == 1) = false := by rw [beq_eq_false_iff_ne]; omega
              have H4 := Lib.hid h4
              clear h4
              go_wp2_with fail
              go_ret
              refine ⟨?_, HFB.out⟩
              rw [soundV, HAL.out, decide_eq_true h1, decide_eq_true h2]
              simp [H4.out]
          · have hni : (nx == -1) = false := by rw [beq_eq_false_iff_ne]; exact hn
            go_wp2_with fail
            refine (Get_F B bs wb p s nx (HR.out.keep HFB.out)).mono ?_
            rintro e w2 ⟨v, rfl, hg⟩
            have HG := Lib.hid hg.2
            obtain ⟨x0, x1, x2, x3⟩ := fourB (hg.2.obj HBX.out (by simp))
            clear hg
            by_cases h6 : us = 25
            · have h6i : ((us : Int) == 25) = true := by rw [beq_iff_eq]; omega
              cases hu : usedR s.R nx with
              | true =>
                go_wp2_with fail
                go_ret
                refine ⟨?_, HFB.out.trans HG.out⟩
                rw [soundV, HAL.out, decide_eq_true h1, decide_eq_true h2, if_neg hn, decide_eq_true h6, hu]
                rfl
              | false =>
                go_wp2_with fail
                go_ret
                refine ⟨?_, HFB.out.trans HG.out⟩
                rw [soundV, HAL.out, decide_eq_true h1, decide_eq_true h2, if_neg hn, decide_eq_true h6, hu]
                rfl
            · have h6i : ((us : Int) == 25) = false := by rw [beq_eq_false_iff_ne]; omega
              have HN := Lib.hid hn
              clear hn
              go_wp2_with fail
              all_goals
                go_ret
                refine ⟨?_, HFB.out.trans HG.out⟩
                rw [soundV, HAL.out, decide_eq_true h1, decide_eq_true h2, if_neg HN.out, decide_eq_false h6]
                rfl
    · have h2i : (25 : Int) < (us : Int) := by omega
      obtain ⟨x0, x1, x2, x3⟩ := fourB HBX.out
      go_enter Try.func20, Try.ntmps20
      go_wp2_with fail
      rw [← HWB.out]
      go_ret
      refine ⟨?_, HFB.out⟩
      rw [soundV, decide_eq_false h2]
      simp
  · have h1i : (1 : Int) < (st : Int) := by omega
    obtain ⟨x0, x1, x2, x3⟩ := fourB HBX.out
    go_enter Try.func20, Try.ntmps20
    go_wp2_with fail
    rw [← HWB.out]
    go_ret
    refine ⟨?_, HFB.out⟩
    rw [soundV, decide_eq_false h1]
    rfl
end Go.Proofs.Ytkcipbjikimlfaa
