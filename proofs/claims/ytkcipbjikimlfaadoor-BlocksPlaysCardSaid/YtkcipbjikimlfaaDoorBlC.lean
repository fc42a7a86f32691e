/- Blocks: BlocksPlays. (printed by gen_blc.py) -/
import Derived.Test.YtkcipbjikimlfaaDoorBlA
import Derived.Test.YtkcipbjikimlfaaDoorOpArgs
import Derived.Test.YtkcipbjikimlfaaDoorAndM
import Derived.Test.YtkcipbjikimlfaaDoorSpoil
namespace Go.Proofs.YtkcipbjikimlfaaDoor
open Go.RowKit
attribute [local go_sem ↓] Go.wp_at_zero Go.wp_at_succ
attribute [local go_sem] Oper.semAt_some
theorem frNew {w w1 w2 : World} {S : List Nat} (h1 : Fr [] w w1) (h2 : Fr S w1 w2) (hS : ∀ i ∈ S, w.heap.size ≤ i) : Fr [] w w2 := h1.next h2 fun i hi hlt => by have := hS i hi; omega
theorem MF.lowB {B p : Nat} {bs : List Nat} {w : World} {s t : RFS} {R : Recs} (h : MF B bs w p s) (ht : t.Ok) (x : RFS) (h1 : Like x s R) (h2 : Like x t R) : MF B bs w p t := by
  obtain ⟨v, X, h, rfl⟩ := h
  have e1 : t.kd = s.kd := h2.kd.trans h1.kd.symm
  have e2 : t.vr = s.vr := h2.vr.trans h1.vr.symm
  have e3 : t.sz = s.sz := h2.sz.trans h1.sz.symm
  have e4 : t.R = s.R := h2.R.trans h1.R.symm
  exact ⟨v, X, ⟨by rw [e1, e2, e3]; exact h.obj, h.recs, by rw [e3, e4]; exact h.opt, ht, h.base⟩, rfl⟩
theorem trio3 {w : World} {b T : Nat} {c0 c1 c2 : Value} (h : w.heap[b]? = some (.cells #[c0, c1, c2] T)) : w.cell? ⟨b, 0, none⟩ = some c0 ∧ w.cell? ⟨b, 1, none⟩ = some c1 ∧ w.cell? ⟨b, 2, none⟩ = some c2 :=
  ⟨cell_of_row _ _ 0 _ _ _ h, cell_of_row _ _ 1 _ _ _ h, cell_of_row _ _ 2 _ _ _ h⟩
set_option maxRecDepth 100000 in
set_option maxHeartbeats 12800000 in
theorem blocksPlays_walk (a : Option Addr) (c : Nat) (l : List UInt8) (sa : Option Addr) (n sc : Nat) (F : Nat → OpW) (w : World) (hl : l.length ≤ 140737488351300) (hc : l.length ≤ c) (hno : a = none → c = 0) (hb : Bytes w a l) (hn2 : n ≤ 140737488351300) (hF : OpsA w sa n F) (hn : Nib w) :
    Calls Tryd.prog 7 #[.slice a l.length c, .slice sa n sc] w fun e w' => e = .returned (.bool true) ∧ Fr [] w w' := by
  have HN := Lib.hid hn
  have HB := Lib.hid hb
  have HNO := Lib.hid hno
  have HC := Lib.hid hc
  have HF := Lib.hid hF
  clear hn hb hno hc hF
  go_enter Tryd.func7, Tryd.ntmps7
  go_wp2_with fail
  refine (speaks10 w).mono ?_
  rintro e w1 ⟨rfl, hf1⟩
  have HF1 := Lib.hid hf1
  clear hf1
  go_wp2_with fail
  refine (open10 a c l w1 hl HC.out HNO.out (HB.out.keep HF1.out) (nib_keep HN.out HF1.out)).mono ?_
  rintro e w2 (⟨rfl, hf2⟩ | ⟨kd, vr, sz, R, p, q, bs, cs, hE, rfl, hbo, hf2⟩)
  · have HF2 := Lib.hid (HF1.out.trans hf2)
    clear hf2
    go_wp2_with fail
    go_ret
    exact ⟨rfl, HF2.out⟩
  · have HF2 := Lib.hid (HF1.out.trans hf2)
    obtain ⟨B0, hB0⟩ : ∃ B0, B0 = w1.heap.size := ⟨_, rfl⟩
    rw [← hB0] at hbo
    have HB0 := Lib.hid (show w.heap.size ≤ B0 by rw [hB0]; exact HF1.out.size)
    have HBO := Lib.hid hbo
    clear hf2 hE hbo hB0
    obtain ⟨s, hs⟩ : ∃ s : RFS, s = ⟨kd, vr, sz, 0, R⟩ := ⟨_, rfl⟩
    rw [← hs] at HBO
    clear hs
    go_wp2_with fail
    go_loopw [43] (fun i wr => ∃ (k : Nat) (bs cs : List Nat) (s : RFS), k ≤ n ∧ i = .int .i64 k ∧ Both B0 B0 wr p q bs cs s s ∧ Fr [] w wr) (fun i _ => n - (intOf i).toNat)
    case atStart => exact ⟨0, bs, cs, s, by omega, rfl, HBO.out, HF2.out⟩
    case round =>
      clear HBO HF2
      obtain ⟨k, bs, cs, s, hk, rfl, hpr, hf⟩ := hrel
      have HP := Lib.hid hpr
      have HFR := Lib.hid hf
      clear hpr hf
      by_cases hlt : k < n
      · have hki : (k : Int) < (n : Int) := by omega
        have hk0 : (0 : Int) ≤ (k : Int) := by omega
        have ek : IntKind.i64.wrap ((k : Int) + 1) = (k : Int) + 1 := IntWalk.i64_in _ (by omega)
        obtain ⟨sb, so, rfl, c0, c1, c2⟩ := (HF.out.keep HFR.out).cell k hlt
        have hok := HF.out.ok k hlt
        obtain ⟨okd, hokd⟩ : ∃ z, z = (F k).kd := ⟨_, rfl⟩
        obtain ⟨oid, hoid⟩ : ∃ z, z = (F k).id := ⟨_, rfl⟩
        obtain ⟨oa, hoa⟩ : ∃ z, z = (F k).a := ⟨_, rfl⟩
        obtain ⟨oc, hoc⟩ : ∃ z, z = (F k).c := ⟨_, rfl⟩
        obtain ⟨od, hod⟩ : ∃ z, z = (F k).d := ⟨_, rfl⟩
        have HOL : Hid (od.length ≤ 140737488351232) := Lib.hid (by rw [hod]; exact hok.len)
        have HONO : Hid (oa = none → oc = 0) := Lib.hid (by rw [hoa, hoc]; exact hok.none)
        have HOB : Hid (Bytes w oa od) := Lib.hid (by rw [hoa, hod]; exact hok.bytes)
        rw [← hokd] at c0
        rw [← hoid] at c1
        rw [← hoa, ← hod, ← hoc] at c2
        obtain ⟨bx, hbx⟩ : ∃ bx, bx = wr.heap.size := ⟨_, rfl⟩
        obtain ⟨wbx, hwbx⟩ : ∃ wb, wb = wr.alloc (.cells #[.int .i64 okd, .int .i64 oid, .slice oa od.length oc] 59) := ⟨_, rfl⟩
        have hbb : wbx.heap[bx]? = some (.cells #[.int .i64 okd, .int .i64 oid, .slice oa od.length oc] 59) := by rw [hwbx, hbx]; exact heap_alloc_new wr _
        have hfb : Fr [] wr wbx := by rw [hwbx]; exact (Fr.refl _ _).alloc _
        obtain ⟨b0, b1, b2⟩ := trio3 hbb
        obtain ⟨j, hj, ej⟩ := mask7 okd
        have HBX := Lib.hid hbb
        have HPX := Lib.hid (HP.out.keep hfb)
        have HFX := Lib.hid (HFR.out.trans hfb)
        have HLT : Hid ((∀ i ∈ bs, w.heap.size ≤ i ∧ B0 ≤ i ∧ i < bx) ∧ (∀ i ∈ cs, w.heap.size ≤ i ∧ B0 ≤ i ∧ i < bx) ∧ bx < wbx.heap.size ∧ w.heap.size ≤ bx) := Lib.hid ⟨fun i hi => by have := HP.out.f.lt i hi; have := HB0.out; omega, fun i hi => by have := HP.out.m.lt i hi; have := HB0.out; omega, (Array.getElem?_eq_some_iff.1 hbb).1, by rw [hbx]; exact HFR.out.size⟩
        clear hokd hoid hoa hoc hod hok hfb HP HFR hbb
        go_upto_region 9 with fail
        rw [← hwbx, ← hbx]
        clear hwbx hbx c0 c1 c2
        by_cases h012 : j = 0 ∨ j = 1 ∨ j = 2
        · have HCL := Lib.hid (clone_any oa oc od wbx (by have := HOL.out; omega) HONO.out (HOB.out.keep HFX.out))
          rcases h012 with rfl | rfl | rfl
          all_goals
            go_wp2_with fail
            refine HCL.out.mono ?_
            rintro e w2 ⟨v1, rfl, hv1⟩
            have ho1 := OwnB.of hv1.got.1
            obtain ⟨g1, c1, rfl, hg1, hg1l, hb1, hf1⟩ := hv1.bytes
            have HCP := Lib.hid hv1.cap
            have HO1 := Lib.hid ho1
            have HB1 := Lib.hid hb1
            have HG1 := Lib.hid (show wbx.heap.size ≤ g1 from hg1)
            have HG1L := Lib.hid hg1l
            have HF1' := Lib.hid (HFX.out.trans hf1)
            have HP1 := Lib.hid (HPX.out.keep hf1)
            have HBX1 := Lib.hid (hf1.obj HBX.out (by simp))
            clear hv1 ho1 hb1 hf1 hg1 hg1l b0 b1 b2 HCL
            have hg1b : g1 ∉ bs := fun hm => by have h := HLT.out; have := (h.1 g1 hm).2.2; have := HG1.out; omega
            have hg1c : g1 ∉ cs := fun hm => by have h := HLT.out; have := (h.2.1 g1 hm).2.2; have := HG1.out; omega
            have HSTO := Lib.hid (Store_F B0 bs w2 p s (some ⟨g1, 0, none⟩) c1 od HP1.out.f HOL.out HCP.out (fun h => by cases h) HB1.out (fun ad e => by cases e; exact hg1b))
            have HG1B := Lib.hid hg1b
            have HG1C := Lib.hid hg1c
            clear hg1b hg1c
            go_wp2_with fail
            refine HSTO.out.mono ?_
            rintro e w3 ⟨rfl, bs3, t, h3, l3, s3⟩
            obtain ⟨m3, ap3⟩ := HP1.out.prog s3
            have HF3 := Lib.hid (frNew HF1'.out s3.1 (fun i hi => (HLT.out.1 i hi).1))
            have HBX3 := Lib.hid (s3.1.obj HBX1.out (fun hm => by have := (HLT.out.1 bx hm).2.2; omega))
            have HB3 := Lib.hid (HB1.out.fr s3.1 (.inr fun ad e => by cases e; exact HG1B.out))
            have HO3 := Lib.hid (HO1.out.keep s3.1 (fun i hi => by
              have h : g1 = i := by simpa [Value.ownBlock] using hi
              rw [← h]
              exact HG1B.out))
            have HSM := Lib.hid (same_any (some ⟨g1, 0, none⟩) oa c1 oc od od w3 (fun h => by cases h) HONO.out HB3.out (HOB.out.keep HF3.out))
            rw [beq_self_eq_true] at HSM
            have HR3 := Lib.hid h3
            have HL3 := Lib.hid l3
            have HM3 := Lib.hid m3
            have HAP3 := Lib.hid ap3
            have HG3 : Hid (g1 ∉ bs3) := Lib.hid (fun hm => by
              rcases s3.2 _ hm with h | h
              · exact HG1B.out h
              · have := HG1L.out; omega)
            have HW3 := Lib.hid s3.1.size
            clear h3 l3 s3 m3 ap3 HSTO
            obtain ⟨b0, b1, b2⟩ := trio3 HBX3.out
            go_wp2_with fail
            refine HSM.out.mono ?_
            rintro e w' ⟨rfl, rfl⟩
            go_wp2_with fail
            clear b0 b1 b2
            go_loopw [75] (fun i wx => ∃ k2 : Nat, k2 ≤ od.length ∧ i = .int .i64 k2 ∧ Fr [g1] w3 wx ∧ OwnB wx wbx.heap.size (.slice (some ⟨g1, 0, none⟩) od.length c1) od.length) (fun i _ => od.length - (intOf i).toNat)
            case atStart => exact ⟨0, by omega, rfl, Fr.refl _ _, HO3.out⟩
            case round =>
              obtain ⟨k2, hk2, rfl, hf4, ho4⟩ := hrel
              have HF4 := Lib.hid hf4
              have HO4 := Lib.hid ho4
              clear hf4 ho4
              have hol := HOL.out
              by_cases hlt2 : k2 < od.length
              · obtain ⟨⟨y, hy⟩, hz⟩ := HO4.out.cell hlt2
                have hki2 : (k2 : Int) < (od.length : Int) := by omega
                have hk02 : (0 : Int) ≤ (k2 : Int) := by omega
                have e2 : IntKind.i64.wrap ((k2 : Int) + 1) = (k2 : Int) + 1 := IntWalk.i64_in _ (by omega)
                go_wp2_with fail
                go_roundw
                case rel => exact ⟨k2 + 1, by omega, by go_num, HF4.out.setCell (by simp) _, HO4.out.setN k2 238 (by decide)⟩
                case measure => simp [intOf] <;> omega
              · have hki2 : ¬ (k2 : Int) < (od.length : Int) := by omega
                have HBX4 := Lib.hid (HF4.out.obj HBX3.out (by simp; have h := HLT.out.2.2.1; have := HG1.out; omega))
                have HR4 := Lib.hid (HR3.out.fr HF4.out (fun i hi hm => by simp at hm; subst hm; exact HG3.out hi))
                have HM4 := Lib.hid (HM3.out.fr HF4.out (fun i hi hm => by simp at hm; subst hm; exact HG1C.out hi))
                have HF5 := Lib.hid (frNew HF3.out HF4.out (fun i hi => by simp at hi; subst hi; have h := HLT.out.2.2; have := HG1.out; omega))
                have HST9 := Lib.hid (Store9 B0 cs wr q s oa oc od HM4.out HOL.out (HOB.out.keep HF5.out) (by
                  rcases HOB.out with h | ⟨b', off', h, hcell⟩
                  · exact .inl h
                  · by_cases hod : od = []
                    · exact .inl hod
                    · refine .inr fun ad e hm => ?_
                      have h0 := hcell 0 (List.length_pos_iff.2 hod)
                      have h1 : b' < w.heap.size := World.block_lt_of_cell? w _ h0
                      rw [h] at e
                      cases e
                      have := HLT.out.2.1 b' hm
                      omega))
                obtain ⟨b0, b1, b2⟩ := trio3 HBX4.out
                go_wp2_with fail
                refine HST9.out.mono ?_
                rintro e w6 ⟨rfl, cs6, t6, h6, l6, s6⟩
                have HB6 := Lib.hid (Both.doc HR4.out HAP3.out (MF.lowB h6 HR3.out.ok s l6 HL3.out) s6)
                have HF6 := Lib.hid (frNew HF5.out s6.1 (fun i hi => (HLT.out.2.1 i hi).1))
                clear h6 l6 s6 b0 b1 b2 HST9
                go_upto_region 51 with fail
                obtain ⟨ax9, cx9, y9⟩ := HB6.out.m.len3
                go_quiet (first
                  | (go_at_call 27; exact Calls.quiet_of_same ((Count_F _ bs3 _ p t (HB6.out.f.keep ((Fr.refl [] w6).drewN _))).mono fun _ _ h => ⟨h.1, h.2.symm⟩))
                  | (go_at_call 14; exact Calls.quiet_of_same ((Live_F _ bs3 _ p t (HB6.out.f.keep ((Fr.refl [] w6).drewN _))).mono fun _ _ h => ⟨h.1, h.2.symm⟩))
                  | (go_at_call 13; exact Calls.quiet_of_same ((Live9 _ cs6 _ q t (HB6.out.m.keep ((Fr.refl [] w6).drewN _))).mono fun _ _ h => ⟨h.1, h.2.symm⟩)))
                obtain ⟨WQ, hWQ⟩ : ∃ WQ, WQ = World.drewN w6 nq := ⟨_, rfl⟩
                rw [← hWQ]
                have hfQ : Fr [] w6 WQ := by rw [hWQ]; exact (Fr.refl [] _).drewN nq
                have HBQ := Lib.hid (HB6.out.keep hfQ)
                have HFQ := Lib.hid (HF6.out.trans hfQ)
                clear hWQ hfQ y9
                go_wp2_with fail
                go_roundw
                case rel => exact ⟨k + 1, bs3, cs6, t, by omega, by go_num, HBQ.out, HFQ.out⟩
                case measure => simp [intOf] <;> omega
        by_cases h34 : j = 3 ∨ j = 4
        · have HL1 := Lib.hid (Load_F B0 bs wbx p s oid HPX.out.f)
          have HL2 : Hid (∀ W, Fr [] wbx W → _) := Lib.hid (fun W (hW : Fr [] wbx W) => Load9 B0 cs W q s oid (HPX.out.m.keep hW))
          have HDL : Hid ((loadE s oid).length ≤ 2000000) := Lib.hid (by
            have h1 := pieces_le s.R (walkE s oid).1
            have h2 := walkE_lenM (first := oid) HPX.out.f.ok
            unfold loadE
            omega)
          obtain ⟨E, hE⟩ : ∃ E, E = (walkE s oid).2 := ⟨_, rfl⟩
          obtain ⟨D, hD⟩ : ∃ D, D = loadE s oid := ⟨_, rfl⟩
          rw [← hE, ← hD] at HL1 HL2
          rw [← hD] at HDL
          have hEi : (E != E) = false := by simp
          clear hE hD h012
          rcases h34 with rfl | rfl
          all_goals
            go_wp2_with fail
            refine HL1.out.mono ?_
            rintro e w2 ⟨v3, rfl, hg3⟩
            obtain ⟨a3, c3, rfl⟩ := own_slR hg3.1
            have hn3 := spl_none hg3.1
            obtain ⟨a3', c3', e3, hb3, -, -, -, -⟩ := Bytes.of_own hg3.1
            simp only [Value.slice.injEq] at e3
            obtain ⟨rfl, -, rfl⟩ := e3
            have HB3 := Lib.hid hb3
            have HN3 := Lib.hid hn3
            have HO3 := Lib.hid (OwnB.of hg3.1)
            have HF3 := Lib.hid hg3.2
            have HBX3 := Lib.hid (hg3.2.obj HBX.out (by simp))
            clear hg3 hb3 hn3 b0 b1 b2 HL1
            obtain ⟨b0, b1, b2⟩ := trio3 HBX3.out
            go_wp2_with fail
            refine (HL2.out w2 HF3.out).mono ?_
            rintro e w3 ⟨v4, rfl, hg4⟩
            obtain ⟨a4, c4, rfl⟩ := own_slR hg4.1
            have hn4 := spl_none hg4.1
            obtain ⟨a4', c4', e4, hb4, -, -, -, -⟩ := Bytes.of_own hg4.1
            simp only [Value.slice.injEq] at e4
            obtain ⟨rfl, -, rfl⟩ := e4
            have HF4 := Lib.hid (HF3.out.trans hg4.2)
            have HO4 := Lib.hid (HO3.out.keep hg4.2 (by simp))
            have HSM := Lib.hid (same_any a3 a4 c3 c4 D D w3 HN3.out hn4 (HB3.out.keep hg4.2) hb4)
            rw [beq_self_eq_true] at HSM
            clear hg4 hb4 hn4 b0 b1 b2
            go_wp2_with fail
            refine HSM.out.mono ?_
            rintro e w' ⟨rfl, rfl⟩
            obtain ⟨S, hS⟩ : ∃ S, S = (Value.slice a3 D.length c3).ownBlock.toList := ⟨_, rfl⟩
            have HSS : Hid (∀ i ∈ S, wbx.heap.size ≤ i) := Lib.hid (fun i hi => (HO3.out.lt (i := i) (by rw [hS] at hi; simpa using hi)).1)
            have HS := Lib.hid hS
            clear hS
            go_wp2_with fail
            go_loopw [125] (fun i wx => ∃ k2 : Nat, k2 ≤ D.length ∧ i = .int .i64 k2 ∧ Fr S w3 wx ∧ OwnB wx wbx.heap.size (.slice a3 D.length c3) D.length) (fun i _ => D.length - (intOf i).toNat)
            case atStart => exact ⟨0, by omega, rfl, Fr.refl _ _, HO4.out⟩
            case round =>
              obtain ⟨k2, hk2, rfl, hf5, ho5⟩ := hrel
              have HF5 := Lib.hid hf5
              have HO5 := Lib.hid ho5
              clear hf5 ho5
              have hdl := HDL.out
              by_cases hlt2 : k2 < D.length
              · obtain ⟨g, rfl, -, -⟩ := HO5.out.addr (by omega)
                obtain ⟨⟨y, hy⟩, hz⟩ := HO5.out.cell hlt2
                have hki2 : (k2 : Int) < (D.length : Int) := by omega
                have hk02 : (0 : Int) ≤ (k2 : Int) := by omega
                have e2 : IntKind.i64.wrap ((k2 : Int) + 1) = (k2 : Int) + 1 := IntWalk.i64_in _ (by omega)
                go_wp2_with fail
                go_roundw
                case rel => exact ⟨k2 + 1, by omega, by go_num, HF5.out.setCell (by intro _; rw [HS.out]; simp [Value.ownBlock]) _, HO5.out.setN k2 238 (by decide)⟩
                case measure => simp [intOf] <;> omega
              · have hki2 : ¬ (k2 : Int) < (D.length : Int) := by omega
                have HB6 : Hid (Both B0 B0 wr p q bs cs s s) := Lib.hid ⟨(HPX.out.f.keep HF4.out).fr HF5.out (fun i hi hm => by have := (HLT.out.1 i hi).2.2; have := HSS.out i hm; have := HLT.out.2.2.1; omega), (HPX.out.m.keep HF4.out).fr HF5.out (fun i hi hm => by have := (HLT.out.2.1 i hi).2.2; have := HSS.out i hm; have := HLT.out.2.2.1; omega), HPX.out.ap⟩
                have HF6 := Lib.hid (frNew (HFX.out.trans HF4.out) HF5.out (fun i hi => by have := HSS.out i hi; have := HLT.out.2.2; omega))
                go_upto_region 51 with fail
                obtain ⟨ax9, cx9, y9⟩ := HB6.out.m.len3
                go_quiet (first
                  | (go_at_call 27; exact Calls.quiet_of_same ((Count_F _ bs _ p s (HB6.out.f.keep ((Fr.refl [] wr).drewN _))).mono fun _ _ h => ⟨h.1, h.2.symm⟩))
                  | (go_at_call 14; exact Calls.quiet_of_same ((Live_F _ bs _ p s (HB6.out.f.keep ((Fr.refl [] wr).drewN _))).mono fun _ _ h => ⟨h.1, h.2.symm⟩))
                  | (go_at_call 13; exact Calls.quiet_of_same ((Live9 _ cs _ q s (HB6.out.m.keep ((Fr.refl [] wr).drewN _))).mono fun _ _ h => ⟨h.1, h.2.symm⟩)))
                obtain ⟨WQ, hWQ⟩ : ∃ WQ, WQ = World.drewN wr nq := ⟨_, rfl⟩
                rw [← hWQ]
                have hfQ : Fr [] wr WQ := by rw [hWQ]; exact (Fr.refl [] _).drewN nq
                have HBQ := Lib.hid (HB6.out.keep hfQ)
                have HFQ := Lib.hid (HF6.out.trans hfQ)
                clear hWQ hfQ y9
                go_wp2_with fail
                go_roundw
                case rel => exact ⟨k + 1, bs, cs, s, by omega, by go_num, HBQ.out, HFQ.out⟩
                case measure => simp [intOf] <;> omega
        by_cases h6 : j = 6
        · subst h6
          have HL1 := Lib.hid (Walk_F B0 bs wbx p s oid HPX.out.f)
          have HL2 : Hid (∀ W, Fr [] wbx W → _) := Lib.hid (fun W (hW : Fr [] wbx W) => Walk9 B0 cs W q s oid (HPX.out.m.keep hW))
          have HLN := Lib.hid (walkE_lenM (first := oid) HPX.out.f.ok)
          obtain ⟨L, hL⟩ : ∃ L, L = (walkE s oid).1 := ⟨_, rfl⟩
          obtain ⟨E, hE⟩ : ∃ E, E = (walkE s oid).2 := ⟨_, rfl⟩
          rw [← hE, ← hL] at HL1 HL2
          rw [← hL] at HLN
          have hEi : (E != E) = false := by simp
          clear hE hL h012 h34
          go_wp2_with fail
          refine HL1.out.mono ?_
          rintro e w2 ⟨v3, rfl, ho3, hf3⟩
          obtain ⟨a3, c3, rfl⟩ := own_slR ho3
          have HO3 := Lib.hid ho3
          have HI3 : Hid (OwnI w2 wbx.heap.size (.slice a3 L.length c3) L.length) := Lib.hid ⟨L.map fun (k : Nat) => (k : Int), by simp, by rw [List.map_map]; exact ho3⟩
          have HF3 := Lib.hid hf3
          have HBX3 := Lib.hid (hf3.obj HBX.out (by simp))
          clear ho3 hf3 b0 b1 b2 HL1
          obtain ⟨b0, b1, b2⟩ := trio3 HBX3.out
          go_wp2_with fail
          refine (HL2.out w2 HF3.out).mono ?_
          rintro e w3 ⟨v4, rfl, ho4, hf4⟩
          have HF4 := Lib.hid (HF3.out.trans hf4)
          have HI4 := Lib.hid (HI3.out.keep hf4 (by simp))
          have HSI := Lib.hid (sameInts10 w3 _ _ 0 _ v4 L (own_fr HO3.out hf4 (by simp)) ho4 (by have := HLN.out; omega))
          clear ho4 hf4 b0 b1 b2
          go_wp2_with fail
          refine HSI.out.mono ?_
          rintro e w4 ⟨rfl, hf5⟩
          have HF4' := Lib.hid (HF4.out.trans hf5)
          have HI4' := Lib.hid (HI4.out.keep hf5 (by simp))
          clear hf5
          obtain ⟨S, hS⟩ : ∃ S, S = (Value.slice a3 L.length c3).ownBlock.toList := ⟨_, rfl⟩
          have HSS : Hid (∀ i ∈ S, wbx.heap.size ≤ i) := Lib.hid (fun i hi => (HI3.out.lt (i := i) (by rw [hS] at hi; simpa using hi)).1)
          have HS := Lib.hid hS
          clear hS
          go_wp2_with fail
          go_loopw [170] (fun i wx => ∃ k2 : Nat, k2 ≤ L.length ∧ i = .int .i64 k2 ∧ Fr S w4 wx ∧ OwnI wx wbx.heap.size (.slice a3 L.length c3) L.length) (fun i _ => L.length - (intOf i).toNat)
          case atStart => exact ⟨0, by omega, rfl, Fr.refl _ _, HI4'.out⟩
          case round =>
            obtain ⟨k2, hk2, rfl, hf5, ho5⟩ := hrel
            have HF5 := Lib.hid hf5
            have HO5 := Lib.hid ho5
            clear hf5 ho5
            have hdl := HLN.out
            by_cases hlt2 : k2 < L.length
            · obtain ⟨g, rfl, -, -⟩ := HO5.out.addr (by omega)
              obtain ⟨⟨y, hy⟩, hz⟩ := HO5.out.cell hlt2
              have hki2 : (k2 : Int) < (L.length : Int) := by omega
              have hk02 : (0 : Int) ≤ (k2 : Int) := by omega
              have e2 : IntKind.i64.wrap ((k2 : Int) + 1) = (k2 : Int) + 1 := IntWalk.i64_in _ (by omega)
              go_wp2_with fail
              go_roundw
              case rel => exact ⟨k2 + 1, by omega, by go_num, HF5.out.setCell (by intro _; rw [HS.out]; simp [Value.ownBlock]) _, HO5.out.set k2 (-1)⟩
              case measure => simp [intOf] <;> omega
            · have hki2 : ¬ (k2 : Int) < (L.length : Int) := by omega
              have HB6 : Hid (Both B0 B0 wr p q bs cs s s) := Lib.hid ⟨(HPX.out.f.keep HF4'.out).fr HF5.out (fun i hi hm => by have := (HLT.out.1 i hi).2.2; have := HSS.out i hm; have := HLT.out.2.2.1; omega), (HPX.out.m.keep HF4'.out).fr HF5.out (fun i hi hm => by have := (HLT.out.2.1 i hi).2.2; have := HSS.out i hm; have := HLT.out.2.2.1; omega), HPX.out.ap⟩
              have HF6 := Lib.hid (frNew (HFX.out.trans HF4'.out) HF5.out (fun i hi => by have := HSS.out i hi; have := HLT.out.2.2; omega))
              go_upto_region 51 with fail
              obtain ⟨ax9, cx9, y9⟩ := HB6.out.m.len3
              go_quiet (first
                | (go_at_call 27; exact Calls.quiet_of_same ((Count_F _ bs _ p s (HB6.out.f.keep ((Fr.refl [] wr).drewN _))).mono fun _ _ h => ⟨h.1, h.2.symm⟩))
                | (go_at_call 14; exact Calls.quiet_of_same ((Live_F _ bs _ p s (HB6.out.f.keep ((Fr.refl [] wr).drewN _))).mono fun _ _ h => ⟨h.1, h.2.symm⟩))
                | (go_at_call 13; exact Calls.quiet_of_same ((Live9 _ cs _ q s (HB6.out.m.keep ((Fr.refl [] wr).drewN _))).mono fun _ _ h => ⟨h.1, h.2.symm⟩)))
              obtain ⟨WQ, hWQ⟩ : ∃ WQ, WQ = World.drewN wr nq := ⟨_, rfl⟩
              rw [← hWQ]
              have hfQ : Fr [] wr WQ := by rw [hWQ]; exact (Fr.refl [] _).drewN nq
              have HBQ := Lib.hid (HB6.out.keep hfQ)
              have HFQ := Lib.hid (HF6.out.trans hfQ)
              clear hWQ hfQ y9
              go_wp2_with fail
              go_roundw
              case rel => exact ⟨k + 1, bs, cs, s, by omega, by go_num, HBQ.out, HFQ.out⟩
              case measure => simp [intOf] <;> omega
        by_cases h5 : j = 5
        · subst h5
          obtain ⟨E, hE⟩ : ∃ E, E = (walkE s oid).2 := ⟨_, rfl⟩
          obtain ⟨t, ht⟩ : ∃ t, t = dropS s (walkE s oid).1 := ⟨_, rfl⟩
          have HFE : Hid (∀ W, Fr [] wbx W → Calls Tryd.prog 19 #[.pointer (some ⟨p, 0, none⟩), .int .i64 oid] W fun e w' => e = .returned (.int .i64 E) ∧ ∃ bs', RF B0 bs' w' p t ∧ Stp bs W bs' w') := Lib.hid fun W hW => by rw [hE, ht]; exact Drop_F B0 bs W p s oid (HPX.out.f.keep hW)
          have HFE9 : Hid (∀ W, MF B0 cs W q s → Calls Tryd.prog 26 #[.pointer (some ⟨q, 0, none⟩), .int .i64 oid] W fun e w' => e = .returned (.int .i64 E) ∧ ∃ cs', MF B0 cs' w' q t ∧ Stp cs W cs' w') := Lib.hid fun W hW => by rw [hE, ht]; exact Drop9 B0 cs W q s oid hW
          have hee : (E != E) = false := by simp
          clear hE ht h012 h34 h6
          go_upto_region 39 with fail
          have HBD := Lib.hid (HPX.out.keep ((Fr.refl [] wbx).drew))
          have hbb : bx ∉ bs := fun hm => by have := (HLT.out.1 bx hm).2.2; omega
          have hbc : bx ∉ cs := fun hm => by have := (HLT.out.2.1 bx hm).2.2; omega
          clear b0 b2
          go_region_held3 (fun w' => w'.cell? ⟨bx, 1, none⟩ = some (.int .i64 oid))
            (first
              | with_reducible assumption
              | exact b1)
            (first
              | (go_at_call 19; (with_reducible refine (HFE.out _ ((Fr.refl [] wbx).drew)).mono ?_); rintro e wA ⟨rfl, bsA, hA, sA⟩; have hA1 : wA.cell? ⟨bx, 1, none⟩ = some (.int .i64 oid) := sA.1.cell b1 hbb; have hmA := HBD.out.prog sA)
              | (go_at_call 26; (with_reducible refine (HFE9.out _ hmA.1).mono ?_); rintro e wB ⟨rfl, csB, hB, sB⟩; have hB1 : wB.cell? ⟨bx, 1, none⟩ = some (.int .i64 oid) := sB.1.cell hA1 hbc))
          all_goals
            have HB6 := Lib.hid (Both.doc hA hmA.2 hB sB)
            have HF6 := Lib.hid (frNew (frNew (HFX.out.drew) sA.1 (fun i hi => (HLT.out.1 i hi).1)) sB.1 (fun i hi => (HLT.out.2.1 i hi).1))
            clear hA hmA hB sA sB hA1 hB1
            go_upto_region 51 with fail
            obtain ⟨ax9, cx9, y9⟩ := HB6.out.m.len3
            go_quiet (first
              | (go_at_call 27; exact Calls.quiet_of_same ((Count_F _ bsA _ p t (HB6.out.f.keep ((Fr.refl [] wB).drewN _))).mono fun _ _ h => ⟨h.1, h.2.symm⟩))
              | (go_at_call 14; exact Calls.quiet_of_same ((Live_F _ bsA _ p t (HB6.out.f.keep ((Fr.refl [] wB).drewN _))).mono fun _ _ h => ⟨h.1, h.2.symm⟩))
              | (go_at_call 13; exact Calls.quiet_of_same ((Live9 _ csB _ q t (HB6.out.m.keep ((Fr.refl [] wB).drewN _))).mono fun _ _ h => ⟨h.1, h.2.symm⟩)))
            obtain ⟨WQ, hWQ⟩ : ∃ WQ, WQ = World.drewN wB nq := ⟨_, rfl⟩
            rw [← hWQ]
            have hfQ : Fr [] wB WQ := by rw [hWQ]; exact (Fr.refl [] _).drewN nq
            have HBQ := Lib.hid (HB6.out.keep hfQ)
            have HFQ := Lib.hid (HF6.out.trans hfQ)
            clear hWQ hfQ y9
            go_wp2_with fail
            go_roundw
            case rel => exact ⟨k + 1, bsA, csB, t, by omega, by go_num, HBQ.out, HFQ.out⟩
            case measure => simp [intOf] <;> omega
        · obtain rfl : j = 7 := by omega
          have HC1 := Lib.hid (Check_F B0 bs wbx p s HPX.out.f)
          have HC2 : Hid (∀ W, Fr [] wbx W → _) := Lib.hid (fun W (hW : Fr [] wbx W) => Check9 B0 cs W q s (HPX.out.m.keep hW))
          obtain ⟨E, hE⟩ : ∃ E, E = checkE s := ⟨_, rfl⟩
          rw [← hE] at HC1 HC2
          have hEi : (E != E) = false := by simp
          clear hE h012 h34 h5 h6
          go_wp2_with fail
          refine HC1.out.mono ?_
          rintro e w2 ⟨rfl, hf2⟩
          have HF2 := Lib.hid hf2
          clear hf2 b0 b1 b2
          go_wp2_with fail
          refine (HC2.out w2 HF2.out).mono ?_
          rintro e w3 ⟨rfl, hf3⟩
          have HB6 := Lib.hid (HPX.out.keep (HF2.out.trans hf3))
          have HF6 := Lib.hid (HFX.out.trans (HF2.out.trans hf3))
          clear hf3
          go_upto_region 51 with fail
          obtain ⟨ax9, cx9, y9⟩ := HB6.out.m.len3
          go_quiet (first
            | (go_at_call 27; exact Calls.quiet_of_same ((Count_F _ bs _ p s (HB6.out.f.keep ((Fr.refl [] w3).drewN _))).mono fun _ _ h => ⟨h.1, h.2.symm⟩))
            | (go_at_call 14; exact Calls.quiet_of_same ((Live_F _ bs _ p s (HB6.out.f.keep ((Fr.refl [] w3).drewN _))).mono fun _ _ h => ⟨h.1, h.2.symm⟩))
            | (go_at_call 13; exact Calls.quiet_of_same ((Live9 _ cs _ q s (HB6.out.m.keep ((Fr.refl [] w3).drewN _))).mono fun _ _ h => ⟨h.1, h.2.symm⟩)))
          obtain ⟨WQ, hWQ⟩ : ∃ WQ, WQ = World.drewN w3 nq := ⟨_, rfl⟩
          rw [← hWQ]
          have hfQ : Fr [] w3 WQ := by rw [hWQ]; exact (Fr.refl [] _).drewN nq
          have HBQ := Lib.hid (HB6.out.keep hfQ)
          have HFQ := Lib.hid (HF6.out.trans hfQ)
          clear hWQ hfQ y9
          go_wp2_with fail
          go_roundw
          case rel => exact ⟨k + 1, bs, cs, s, by omega, by go_num, HBQ.out, HFQ.out⟩
          case measure => simp [intOf] <;> omega
      · have hki : ¬ (k : Int) < (n : Int) := by omega
        have HBY := Lib.hid (Bytes_F B0 bs wr p s HP.out.f (nib_keep HN.out HFR.out))
        have HBY9 : Hid (∀ W, Fr [] wr W → _) := Lib.hid (fun W (hW : Fr [] wr W) => Bytes9 B0 cs W q s (HP.out.m.keep hW))
        obtain ⟨D, hD⟩ : ∃ D, D = fileB s.kd s.vr s.sz s.R := ⟨_, rfl⟩
        rw [← hD] at HBY HBY9
        clear hD
        go_wp2_with fail
        refine HBY.out.mono ?_
        rintro e w5 ⟨v, rfl, hv⟩
        obtain ⟨g5, c5, rfl, -, -, hb5, hf5⟩ := hv.bytes
        have HB5 := Lib.hid hb5
        have HF5 := Lib.hid hf5
        clear hv hb5 hf5
        go_wp2_with fail
        refine (HBY9.out w5 HF5.out).mono ?_
        rintro e w6 ⟨v, rfl, hv⟩
        obtain ⟨g6, c6, rfl, -, -, hb6, hf6⟩ := hv.bytes
        have HF6 := Lib.hid (HFR.out.trans (HF5.out.trans hf6))
        have HSM := Lib.hid (same_any (some ⟨g5, 0, none⟩) (some ⟨g6, 0, none⟩) c5 c6 _ _ w6 (fun h => by cases h) (fun h => by cases h) (HB5.out.keep hf6) hb6)
        rw [beq_self_eq_true] at HSM
        clear hv hb6 hf6
        go_wp2_with fail
        refine HSM.out.mono ?_
        rintro e w' ⟨rfl, rfl⟩
        go_wp2_with fail
        go_ret
        exact ⟨rfl, HF6.out⟩
end Go.Proofs.YtkcipbjikimlfaaDoor
