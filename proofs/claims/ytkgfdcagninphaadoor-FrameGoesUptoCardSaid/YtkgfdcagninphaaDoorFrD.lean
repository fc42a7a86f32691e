/- Frames: the walk of 'one', the frame that bytes begin with. -/
import Derived.Test.YtkgfdcagninphaaDoorFrC
import Derived.Deep.MidRow
namespace Go.Proofs.YtkgfdcagninphaaDoor
open Go.RowKit
attribute [local go_sem ↓] Go.wp_at_zero Go.wp_at_succ
def oT : One → Int | .ok t _ => I8 t | _ => 0
def oD : One → List UInt8 | .ok _ d => d | _ => []
def oN : One → Int | .ok _ d => ((d.length + 9 : Nat) : Int) | _ => 0
def oE : One → Int | .long => 1 | .bad => 91 | _ => 0
/-- what 'one' gives -/
def OneG (w w' : World) (x : Value) (o : One) : Prop :=
  ∃ a c, x = .tuple #[.agg #[.int .i64 (oT o), .slice a (oD o).length c], .int .i64 (oN o), .int .i64 (oE o)] ∧ w'.ownsRow w.heap.size 5 1 (.slice a (oD o).length c) (oD o).length ((oD o).map B8) ∧ Fr [] w w'
theorem OneG.no {w w' : World} {o : One} {n : Int} (h1 : oT o = 0) (h2 : oD o = []) (h3 : oN o = 0) (h4 : oE o = n) (hf : Fr [] w w') : OneG w w' (.tuple #[.agg #[.int .i64 0, .slice none 0 0], .int .i64 0, .int .i64 n]) o := by
  refine ⟨none, 0, by rw [h1, h2, h3, h4]; rfl, ?_, hf⟩
  rw [h2]
  exact World.ownsRow_nil _ _ _ _
theorem results_row3 {P : Program} {fn : Func} {p u v : Tmp} {ty : TypeId} (h : fn.results = #[.cell p ty, .tmp u, .tmp v]) (tmps : Array Value) (w : World) (g T : Nat) (cs : Array Value) (d : TypeDesc) (e e2 : Value)
    (hp : tmps.getD p undef = .pointer (some ⟨g, 0, none⟩)) (he : tmps.getD u undef = e) (he2 : tmps.getD v undef = e2) (hg : w.heap[g]? = some (.cells cs T))
    (hu : P.underlying ty = some d) (hd : (match d with | .struct _ | .array _ _ => true | _ => false) = true) (hi : (P.info? ty).map (·.size) = some cs.size) :
    (results fn tmps).run P w = .ok (.tuple #[.agg cs, e, e2]) w := by
  have hl := run_loadVar_row w g T ty cs (0, 0) d hg hu hd hi
  have key : (results fn tmps).run P w = ((asAddr (tmps.getD p undef)).run P w).andThen fun a w₁ => ((loadVar ty a).run P w₁).andThen fun x w₂ => .ok (.tuple #[x, tmps.getD u undef, tmps.getD v undef]) w₂ := by
    simp only [results, h]
    simp [Sem.run_bind, Result.andThen]
  rw [key, hp, he, he2]
  simp [asAddr, hl]
theorem infoFr : (Tryd.prog.info? 25).map (·.size) = some 2 := by kernel_rfl
theorem duo_fz {w : World} {b T : Nat} {c0 c1 : Value} (h : w.heap[b]? = some (.cells #[c0, c1] T)) : w.frozen? ⟨b, 0, none⟩ = false ∧ w.frozen? ⟨b, 1, none⟩ = false :=
  ⟨frozen_of_row w b 0 _ _ h, frozen_of_row w b 1 _ _ h⟩
def ZatF (w : World) (g : Nat) : Prop := w.heap[g]? = some (.cells #[.int .i64 0, .slice none 0 0] 25)
theorem ZatF.there {w : World} {g : Nat} (h : ZatF w g) : w.there g 0 2 := by
  intro j hj
  unfold ZatF at h
  refine ⟨?_, frozen_of_row w g _ _ _ h⟩
  rw [cell_of_row w g _ _ _ _ h]
  simp only [Nat.zero_add]
  rw [Array.getElem?_eq_getElem (by simpa using hj)]
  rfl
def frAdr : Value → Nat | .pointer (some ⟨b, _, _⟩) => b | _ => 0
def frAt0 : Value → Bool | .pointer (some ⟨_, 0, none⟩) => true | _ => false
def frCs : Value → List Value | .agg ⟨l⟩ => l | _ => []
theorem frAdr_p (b o : Nat) (s : Option Nat) : frAdr (.pointer (some ⟨b, o, none⟩)) = b := rfl
theorem frAt0_p (b : Nat) : frAt0 (.pointer (some ⟨b, 0, none⟩)) = true := rfl
theorem frAt0_eq {v : Value} (h : frAt0 v = true) : v = .pointer (some ⟨frAdr v, 0, none⟩) := by
  unfold frAt0 at h
  split at h
  · rfl
  · cases h
theorem frCs_a (l : List Value) : frCs (.agg l.toArray) = l := rfl
def isFr : Value → Bool
  | .agg ⟨[.int .i64 _, .slice _ _ _]⟩ => true
  | _ => false
theorem isFr_a (z : Int) (a : Option Addr) (n c : Nat) : isFr (.agg #[.int .i64 z, .slice a n c]) = true := rfl
theorem isFr_eq {v : Value} (h : isFr v = true) : v = .agg (frCs v).toArray ∧ (frCs v).toArray.size = 2 ∧ (frCs v).toArray.all (·.oneCell') = true := by
  unfold isFr at h
  split at h
  · exact ⟨rfl, rfl, by simp [frCs, Value.oneCell']⟩
  · cases h
theorem wp_storeF' {d : Option Tmp} {x y : Operand} {ty : TypeId} {ps : String} {af : Array Edge} {a : Act} {w : World} {K : Act → World → Prop} {Q : Exit → Act → World → Prop} (b : Nat) (cs : List Value)
    (hz : w.there b 0 cs.toArray.size) (hi : (Tryd.prog.info? 25).map (·.size) = some cs.toArray.size) (h1 : cs.toArray.all (·.oneCell') = true) (hx : a.eval x = .pointer (some ⟨b, 0, none⟩)) (hy : a.eval y = .agg cs.toArray) :
    Oper.wp Tryd.prog { dst := d, op := .store 25 x y, type := ty, pos := ps, after := af, guard := none } a w K Q = K (a.put d undef) (w.setCells b 0 cs) := by
  unfold Oper.wp execOp
  simp only [hx, hy, Instr.storeAt, Instr.sureAddr, Sem.run_bind, Sem.run_pure, Result.andThen_ok, run_storeVar_mid w b 0 25 cs.toArray hz hi h1]
  rfl
/-- a whole frame goes into a variable, in a region that draws its order -/
theorem wp_storeF {d : Option Tmp} {x y : Operand} {ty : TypeId} {ps : String} {af : Array Edge} {a : Act} {w : World} {K : Act → World → Prop} {Q : Exit → Act → World → Prop}
    (hz : ZatF w (frAdr (a.eval x))) (hx : frAt0 (a.eval x) = true) (hy : isFr (a.eval y) = true) :
    Oper.wp Tryd.prog { dst := d, op := .store 25 x y, type := ty, pos := ps, after := af, guard := none } a w K Q = K (a.put d undef) (w.setCells (frAdr (a.eval x)) 0 (frCs (a.eval y))) := by
  obtain ⟨e2, hs, h1⟩ := isFr_eq hy
  exact wp_storeF' _ _ (by rw [hs]; exact hz.there) (by rw [hs]; exact infoFr) h1 (frAt0_eq hx) e2
attribute [local go_sem ↓] wp_storeF
attribute [local go_sem] frAdr_p frCs_a frAt0_p isFr_a
theorem wrap32_U {n : Nat} (h : n < 4294967296) : IntKind.u32.wrap (U n) = I32 (BitVec.ofNat 32 n) := by
  rw [U_lt n (by omega), wrap32_in _ (by omega) (by omega), I32_ofNat n (by omega)]
theorem I32_neq (a b : BitVec 32) : (I32 a != I32 b) = (a != b) := I32_ne a b
set_option maxRecDepth 100000 in
set_option maxHeartbeats 3200000 in
theorem one_any (a : Option Addr) (c : Nat) (l : List UInt8) (w : World) (hl : l.length ≤ 140737488351300) (hc : l.length ≤ c) (hb : Bytes w a l) (hn : Nib w) :
    Calls Tryd.prog 36 #[.slice a l.length c] w fun e w' => ∃ x, e = .returned x ∧ OneG w w' x (one l) := by
  have HB := Lib.hid hb
  have HN := Lib.hid hn
  have HC := Lib.hid hc
  clear hn
  obtain ⟨wz, hwz⟩ : ∃ wz, wz = w.alloc (.cells #[.int .i64 0, .slice none 0 0] 25) := ⟨_, rfl⟩
  have HFZ := Lib.hid (show Fr [] w wz by rw [hwz]; exact (Fr.refl _ _).alloc _)
  have hbz : wz.heap[w.heap.size]? = some (.cells #[.int .i64 0, .slice none 0 0] 25) := by rw [hwz]; exact heap_alloc_new w _
  have HBZ := Lib.hid hbz
  have HWZ := Lib.hid hwz
  obtain ⟨x0, x1⟩ := duo hbz
  obtain ⟨f0, f1⟩ := duo_fz hbz
  clear hbz
  by_cases h5 : l.length < 5
  · have HO := Lib.hid (one_short h5)
    have hd : decide ((l.length : Int) < 5) = true := decide_eq_true (by omega)
    clear hb hc hl hwz
    go_enter Tryd.func36, Tryd.ntmps36
    go_upto_region 1 with fail
    rw [← HWZ.out]
    clear HWZ
    go_wp2
    refine bodyPost_ret (v := .tuple #[.agg #[.int .i64 0, .slice none 0 0], .int .i64 0, .int .i64 0]) ?_ rfl ⟨_, rfl, by rw [HO.out]; exact OneG.no rfl rfl rfl rfl (Fr.setCells (by simp) [.int .i64 0, .slice none 0 0] 0 _ HFZ.out)⟩
    exact results_row3 Tryd.results36 _ _ w.heap.size 25 _ _ _ _ rfl rfl rfl (obj_setCells HBZ.out [.int .i64 0, .slice none 0 0] rfl) Tryd.underlying25 rfl infoFr
  · have hd : decide ((l.length : Int) < 5) = false := decide_eq_false (by omega)
    obtain ⟨S, hS⟩ : ∃ S, S = sz l := ⟨_, rfl⟩
    have HS := Lib.hid hS
    have hS2 : S < 4294967296 := by rw [hS]; exact sz_lt l
    have HG1 : Hid (Calls Tryd.prog 44 #[.slice a l.length c, .int .i64 1, .int .i64 4] wz fun e w' => e = .returned (.tuple #[.int .u64 (S : Int), .int .i64 0]) ∧ wz = w') := by
      have h := get_yes a c l 4 1 wz hl hc (HB.out.keep HFZ.out) (by unfold Wd; omega) (by omega)
      rw [show be ((l.drop 1).take 4) = S from hS.symm, U_lt _ (by omega)] at h
      exact Lib.hid h
    obtain ⟨ab, ao, rfl, hcs⟩ := hb.at (by omega)
    have hc0 := hcs 0 (by omega)
    rw [Nat.add_zero] at hc0
    have habl := World.block_lt_of_cell? w _ hc0
    obtain ⟨t, ht⟩ : ∃ t, t = l.getD 0 0 := ⟨_, rfl⟩
    rw [← ht] at hc0
    have HT := Lib.hid ht
    have HC0 : Hid (w.cell? ⟨ab, ao, none⟩ = some (.int .u8 (I8 t))) := Lib.hid hc0
    clear hS hcs hc0 ht hb hwz
    have q1 : IntKind.i64.wrap (S : Int) = (S : Int) := IntWalk.i64_in _ (by omega)
    by_cases hlong : 1048576 < S
    · have HO := Lib.hid (one_long h5 (by rw [← HS.out]; exact hlong))
      have hd2 : decide ((1048576 : Int) < (S : Int)) = true := decide_eq_true (by omega)
      clear hc hl
      go_enter Tryd.func36, Tryd.ntmps36
      go_upto_region 1 with fail
      rw [← HWZ.out]
      clear HWZ
      go_wp2_with fail
      refine HG1.out.mono ?_
      rintro e w' ⟨rfl, rfl⟩
      go_wp2
      refine bodyPost_ret (v := .tuple #[.agg #[.int .i64 0, .slice none 0 0], .int .i64 0, .int .i64 1]) ?_ rfl ⟨_, rfl, by rw [HO.out]; exact OneG.no rfl rfl rfl rfl (Fr.setCells (by simp) [.int .i64 0, .slice none 0 0] 0 _ HFZ.out)⟩
      exact results_row3 Tryd.results36 _ _ w.heap.size 25 _ _ _ _ rfl rfl rfl (obj_setCells HBZ.out [.int .i64 0, .slice none 0 0] rfl) Tryd.underlying25 rfl infoFr
    · have hd2 : decide ((1048576 : Int) < (S : Int)) = false := decide_eq_false (by omega)
      by_cases hcut : l.length < S + 9
      · have HO := Lib.hid (one_cut h5 (by rw [← HS.out]; exact hlong) (by rw [← HS.out]; exact hcut))
        have hd3 : decide ((l.length : Int) < 5 + (S : Int) + 4) = true := decide_eq_true (by omega)
        clear hc hl
        go_enter Tryd.func36, Tryd.ntmps36
        go_upto_region 1 with fail
        rw [← HWZ.out]
        clear HWZ
        go_wp2_with fail
        refine HG1.out.mono ?_
        rintro e w' ⟨rfl, rfl⟩
        go_wp2
        refine bodyPost_ret (v := .tuple #[.agg #[.int .i64 0, .slice none 0 0], .int .i64 0, .int .i64 0]) ?_ rfl ⟨_, rfl, by rw [HO.out]; exact OneG.no rfl rfl rfl rfl (Fr.setCells (by simp) [.int .i64 0, .slice none 0 0] 0 _ HFZ.out)⟩
        exact results_row3 Tryd.results36 _ _ w.heap.size 25 _ _ _ _ rfl rfl rfl (obj_setCells HBZ.out [.int .i64 0, .slice none 0 0] rfl) Tryd.underlying25 rfl infoFr
      · have hd3 : decide ((l.length : Int) < 5 + (S : Int) + 4) = false := decide_eq_false (by omega)
        have HG2 : Hid (Calls Tryd.prog 44 #[.slice (some ⟨ab, ao, none⟩) l.length c, .int .i64 (5 + (S : Int)), .int .i64 4] wz fun e w' => e = .returned (.tuple #[.int .u64 (U (be ((l.drop (S + 5)).take 4))), .int .i64 0]) ∧ wz = w') := by
          have h := get_yes (some ⟨ab, ao, none⟩) c l 4 (S + 5) wz hl hc (HB.out.keep HFZ.out) (by unfold Wd; omega) (by omega)
          rw [show ((S + 5 : Nat) : Int) = 5 + (S : Int) by omega] at h
          exact Lib.hid h
        have HLT := Lib.hid (show (l.take (S + 5)).length = S + 5 by rw [List.length_take]; omega)
        have HSUM : Hid (Calls Tryd.prog 30 #[.slice (some ⟨ab, ao, none⟩) (S + 5) c] wz fun e w' => e = .returned (.int .u32 (I32 (sm (l.take (S + 5))))) ∧ wz = w') := by
          have hs := (HB.out.keep HFZ.out).sub 0 (S + 5) (by omega)
          rw [List.drop_zero] at hs
          exact Lib.hid (sum_any (some ⟨ab, ao, none⟩) (S + 5) c (l.take (S + 5)) wz HLT.out (by omega) hs (nib_keep HN.out HFZ.out))
        have q2 : IntKind.u32.wrap (U (be ((l.drop (S + 5)).take 4))) = I32 (su l S) := by
          have h4 : ((l.drop (S + 5)).take 4).length ≤ 4 := by rw [List.length_take]; omega
          have := be_lt ((l.drop (S + 5)).take 4)
          have h2 : 256 ^ ((l.drop (S + 5)).take 4).length ≤ 256 ^ 4 := Nat.pow_le_pow_right (by omega) h4
          have h3 : (256 : Nat) ^ 4 = 4294967296 := by decide
          exact wrap32_U (by omega)
        have hcap : S + 9 ≤ c := by omega
        have hcapi : 5 + (S : Int) ≤ (c : Int) := by omega
        have hne5 : ¬ c = 5 := by omega
        have q3 : (5 + (S : Int)).toNat = S + 5 := by omega
        have q4 : (5 + (S : Int) - 5).toNat = S := by omega
        generalize hBE : U (be ((l.drop (S + 5)).take 4)) = BE at HG2 q2
        clear hBE
        cases hbad : (su l S != sm (l.take (S + 5)))
        · have HO := Lib.hid (one_ok h5 (by rw [← HS.out]; exact hlong) (by rw [← HS.out]; exact hcut) (by rw [← HS.out]; exact hbad))
          have hq : (I32 (su l S) != I32 (sm (l.take (S + 5)))) = false := by rw [I32_ne]; exact hbad
          generalize I32 (su l S) = r1 at q2 hq
          generalize I32 (sm (l.take (S + 5))) = r2 at HSUM hq
          have hle : l.length ≤ 140737488351300 := hl
          clear hc hl hbad
          go_enter Tryd.func36, Tryd.ntmps36
          go_upto_region 1 with fail
          rw [← HWZ.out]
          clear HWZ
          go_wp2_with fail
          refine HG1.out.mono ?_
          rintro e w' ⟨rfl, rfl⟩
          go_wp2_with fail
          refine HG2.out.mono ?_
          rintro e w' ⟨rfl, rfl⟩
          go_wp2_with fail
          refine HSUM.out.mono ?_
          rintro e w' ⟨rfl, rfl⟩
          go_wp2_with fail
          have HD := Lib.hid (show ((l.drop 5).take S).length = S by rw [List.length_take, List.length_drop]; omega)
          obtain ⟨D, hD⟩ : ∃ D, D = (l.drop 5).take S := ⟨_, rfl⟩
          have HDD := Lib.hid hD
          rw [← hD] at HD
          have HSUB : Hid (∀ W, Fr [] w W → Bytes W (some ⟨ab, ao + 5, none⟩) D) := Lib.hid fun W hW => by rw [hD]; exact (HB.out.keep hW).sub 5 S (by omega)
          have HCL : Hid (∀ W, Fr [] w W → Calls Tryd.prog 34 #[.slice (some ⟨ab, ao + 5, none⟩) S (c - 5)] W fun e w' => ∃ g cap, e = .returned (.slice (some ⟨g, 0, none⟩) S cap) ∧ W.heap.size ≤ g ∧ w'.ownsRow W.heap.size 5 1 (.slice (some ⟨g, 0, none⟩) S cap) S (D.map B8) ∧ Fr [] W w') := by
            refine Lib.hid fun W hW => ?_
            have h := Clone_some ⟨ab, ao + 5, none⟩ (c - 5) D W (by rw [HD.out]; omega) (HSUB.out W hW)
            rw [HD.out] at h
            refine h.mono ?_
            rintro e w' ⟨v, rfl, g, cap, rfl, h1, _, h3, h4⟩
            rw [HD.out] at h3
            exact ⟨g, cap, by rw [HD.out], h1, h3, h4⟩
          have hcd : wz.drew.cell? ⟨ab, ao, none⟩ = some (.int .u8 (I8 t)) := HFZ.out.cell HC0.out (by simp)
          have hzd : wz.drew.heap[w.heap.size]? = some (.cells #[.int .i64 0, .slice none 0 0] 25) := HBZ.out
          have q5 : IntKind.i64.wrap (5 + (S : Int)) = 5 + (S : Int) := IntWalk.i64_in _ (by omega)
          have q6 : IntKind.i64.wrap (5 + (S : Int) + 4) = 5 + (S : Int) + 4 := IntWalk.i64_in _ (by omega)
          have q7 : IntKind.i64.wrap (I8 t) = I8 t := IntWalk.i64_in _ (by have := I8_lo t; have := I8_hi t; omega)
          have q8 : (0 : Int) ≤ 5 + (S : Int) := by omega
          have q9 : (0 : Int) < (l.length : Int) := by omega
          have q9n : 0 < l.length := by omega
          have q10 : (5 : Int) ≤ 5 + (S : Int) := by omega
          have q11 : (0 : Int) ≤ (S : Int) := by omega
          clear hD x0 x1 f0 f1
          go_cut [3, 4] (fun n e wx => n = .int .i64 (5 + (S : Int) + 4) ∧ e = .int .i64 0 ∧ ∃ (g cap : Nat), wx.heap[w.heap.size]? = some (.cells #[.int .i64 (I8 t), .slice (some ⟨g, 0, none⟩) S cap] 25) ∧ wx.ownsRow w.heap.size 5 1 (.slice (some ⟨g, 0, none⟩) S cap) S (D.map B8) ∧ Fr [] w wx ∧ w.heap.size ≠ g)
          case first =>
            go_region_held3 (fun w' => w'.cell? ⟨ab, ao, none⟩ = some (.int .u8 (I8 t)))
              (first
                | with_reducible assumption
                | exact hA.cell hcd (by simp)
                | exact (Fr.setCells (S := [w.heap.size]) (by simp) _ 0 _ (hA.mono (by simp))).cell hcd (by simp; omega))
              (first
                | (go_at_call 34; (with_reducible refine (HCL.out _ HFZ.out.drew).mono ?_); rintro e wA ⟨gA, cA, rfl, hgA, hoA, hA⟩; have hzA : ZatF wA w.heap.size := hA.obj hzd (by simp)))
            all_goals go_wp2_with fail
            all_goals go_meet
            all_goals
              have hge := hgA
              have hsz := HBZ.out
              have hltz : w.heap.size < wz.heap.size := (Array.getElem?_eq_some_iff.1 hsz).1
              have hgA2 : wz.heap.size ≤ gA := hgA
              exact ⟨rfl, rfl, gA, cA, obj_setCells hzA [.int .i64 (I8 t), .slice (some ⟨gA, 0, none⟩) S cA] rfl, own_base (own_fr hoA (Fr.setCells (S := [w.heap.size]) (by simp) [.int .i64 (I8 t), .slice (some ⟨gA, 0, none⟩) S cA] 0 _ (Fr.refl _ _)) (by intro i hi; simp [Value.ownBlock] at hi; simp; omega)) (show w.heap.size ≤ wz.heap.size by omega), Fr.setCells (by simp) [.int .i64 (I8 t), .slice (some ⟨gA, 0, none⟩) S cA] 0 _ (HFZ.out.drew.trans hA), by omega⟩
          case rest =>
            obtain ⟨rfl, rfl, g, cap, hrow, hown, hfr, hg⟩ := hcut
            have HROW := Lib.hid hrow
            have HOWN := Lib.hid hown
            have HFR := Lib.hid hfr
            clear hrow hown hfr
            go_wp2
            refine bodyPost_ret (v := .tuple #[.agg #[.int .i64 (I8 t), .slice (some ⟨g, 0, none⟩) S cap], .int .i64 (5 + (S : Int) + 4), .int .i64 0]) ?_ rfl ⟨_, rfl, some ⟨g, 0, none⟩, cap, ?_, ?_, HFR.out⟩
            · exact results_row3 Tryd.results36 _ _ w.heap.size 25 _ _ _ _ rfl rfl rfl HROW.out Tryd.underlying25 rfl infoFr
            · rw [HO.out]
              simp only [oT, oD, oN, oE]
              rw [← HS.out, ← HDD.out, HD.out, HT.out, show ((S + 9 : Nat) : Int) = 5 + (S : Int) + 4 by omega]
            · rw [HO.out]
              simp only [oD]
              rw [← HS.out, ← HDD.out, HD.out]
              exact HOWN.out
        · have HO := Lib.hid (one_bad h5 (by rw [← HS.out]; exact hlong) (by rw [← HS.out]; exact hcut) (by rw [← HS.out]; exact hbad))
          have hq : (I32 (su l S) != I32 (sm (l.take (S + 5)))) = true := by rw [I32_ne]; exact hbad
          generalize I32 (su l S) = r1 at q2 hq
          generalize I32 (sm (l.take (S + 5))) = r2 at HSUM hq
          clear hc hl hbad
          go_enter Tryd.func36, Tryd.ntmps36
          go_upto_region 1 with fail
          rw [← HWZ.out]
          clear HWZ
          go_wp2_with fail
          refine HG1.out.mono ?_
          rintro e w' ⟨rfl, rfl⟩
          go_wp2_with fail
          refine HG2.out.mono ?_
          rintro e w' ⟨rfl, rfl⟩
          go_wp2_with fail
          refine HSUM.out.mono ?_
          rintro e w' ⟨rfl, rfl⟩
          go_wp2
          refine bodyPost_ret (v := .tuple #[.agg #[.int .i64 0, .slice none 0 0], .int .i64 0, .int .i64 91]) ?_ rfl ⟨_, rfl, by rw [HO.out]; exact OneG.no rfl rfl rfl rfl (Fr.setCells (by simp) [.int .i64 0, .slice none 0 0] 0 _ HFZ.out)⟩
          exact results_row3 Tryd.results36 _ _ w.heap.size 25 _ _ _ _ rfl rfl rfl (obj_setCells HBZ.out [.int .i64 0, .slice none 0 0] rfl) Tryd.underlying25 rfl infoFr
end Go.Proofs.YtkgfdcagninphaaDoor
