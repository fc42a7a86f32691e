/- The walk of the law WireThere, where what the script holds is small. -/
import Derived.Test.YtnmfejlhbgockaaWireP
import Derived.Test.YtnmfejlhbgockaaWireArgs
import Derived.Deep.RegionHeld3
namespace Go.Proofs.Ytnmfejlhbgockaa
open Go.RowKit
attribute [local go_sem] mulU256 wrapU_nat wrapU_I8 wrapU addU mulU remU divU byteU shrU I8_ne I8_eq U_eq U_ne

theorem numB8 (n : Nat) : numB 8 n = by8 8 n := rfl
theorem numB4 (n : Nat) : numB 4 n = by8 4 n := rfl
theorem be8 (n : Nat) (h : n < 18446744073709551616) : be (by8 8 n) = n := by rw [be_by8]; exact Nat.mod_eq_of_lt (by simpa using h)
theorem be4 (n : Nat) (h : n < 4294967296) : be (by8 4 n) = n := by rw [be_by8]; exact Nat.mod_eq_of_lt (by simpa using h)
theorem NewReader_gen (a : Option Addr) (cap : Nat) (l : List UInt8) (w : World) (hl : l.length ≤ 140737488351300) (hno : a = none → cap = 0) (hb : Bytes w a l) :
    Calls Try.prog 24 #[.slice a l.length cap] w fun e w' => ∃ p av cv, e = .returned (.pointer (some ⟨p, 0, none⟩)) ∧ Rd w' p (.slice av l.length cv) 0 ∧ Fr [] w w' := by
  go_enter Try.func24, Try.ntmps24
  go_wp2_with fail
  refine (Clone_any a cap l w hl hno hb).mono ?_
  rintro e w1 ⟨v, rfl, hgot⟩
  obtain ⟨av, cv, rfl, _⟩ := hgot.bytes
  have hf := hgot.2
  clear hgot hno
  go_wp2_with fail
  go_ret
  exact ⟨_, av, cv, rfl, heap_alloc_new w1 _, hf.alloc _⟩
set_option maxHeartbeats 1600000 in
theorem wireThere_walk (sa : Option Addr) (sn sc : Nat) (F : Nat → OpV) (w : World) (hsn : sn ≤ 1048576) (hops : Ops w sa sn F) (hsm : ∀ k, k < sn → (F k).data.length ≤ 1048576) :
    Calls Try.prog 8 #[.slice sa sn sc] w fun e w' => e = .returned (.bool true) ∧ Fr [] w w' := by
  go_enter Try.func8, Try.ntmps8
  go_wp2_with fail
  refine (speaks_wire _).mono ?_
  rintro e w1 ⟨rfl, hf1⟩
  go_wp2_with fail
  refine (NewWriter_any w1).mono ?_
  rintro e w2 ⟨rfl, ho2, hf2, hlt2⟩
  have S2 := (((Sep.start w).still hf1).box hf2 (Nat.le_refl _) hlt2).add (v := .slice none 0 0) (l := []) (Fr.refl _ _) (World.ownsRow_nil _ _ _ _)
  generalize w1.heap.size = p at ho2 hlt2 S2 ⊢
  clear hf1 hf2 hlt2
  have HS2 := Lib.hid S2
  have HP2 := Lib.hid ho2
  clear S2 ho2
  go_wp2_with fail
  go_loopw [5, 17] (fun _ i wr => ∃ (k : Nat) (vw : Value), k ≤ sn ∧ i = .int .i64 k ∧ Sep w wr [p] [(vw, pre F k)] ∧ wr.heap[p]? = some (.cells #[vw] 68)) (fun _ i _ => sn - (intOf i).toNat)
  case atStart => exact ⟨0, .slice none 0 0, by omega, rfl, HS2.out, HP2.out⟩
  case round =>
    obtain ⟨k, vw, hk, rfl, hS, hoPr⟩ := hrel
    have HLL := Lib.hid (Nat.le_trans (pre_length F k fun j hj => hsm j (by omega)) (Nat.mul_le_mul_right 1048584 (Nat.le_trans hk hsn)))
    have HS := Lib.hid hS
    clear hS HS2 HP2
    by_cases hlt : k < sn
    · obtain ⟨b, off, rfl, d0, d1, d2, d3⟩ := (hops.keep HS.out.fr).cell k hlt
      rw [← Nat.add_assoc] at d1 d2 d3
      have hok := hops.ok k hlt
      have hdl := hsm k hlt
      have HPRE := Lib.hid (show pre F (k + 1) = pre F k ++ part (F k) from rfl)
      generalize F k = o at d0 d1 d2 d3 hok hdl HPRE
      obtain ⟨kd, wd, nm, oa, oc, od⟩ := o
      have HD := Lib.hid (show od.length ≤ 1048576 from hdl)
      clear hdl
      obtain ⟨bo, hbo0⟩ : ∃ bo, bo = wr.heap.size := ⟨_, rfl⟩
      obtain ⟨wb, hwb⟩ : ∃ wb, wb = wr.alloc (.cells #[.int .i64 kd, .int .i64 wd, .int .u64 (U nm), .slice oa od.length oc] 50) := ⟨_, rfl⟩
      have hfb : Fr [] wr wb := by rw [hwb]; exact (Fr.refl _ _).alloc _
      have Sb : Sep w wb [bo, p] [(vw, pre F k)] := HS.out.box hfb (by omega) (by rw [hwb, hbo0]; simp)
      have hbo : wb.heap[bo]? = some (.cells #[.int .i64 kd, .int .i64 wd, .int .u64 (U nm), .slice oa od.length oc] 50) := by rw [hwb, hbo0]; exact heap_alloc_new wr _
      have hoPb := hfb.obj hoPr (by simp)
      have hpb : p < bo := by rw [hbo0]; exact (Array.getElem?_eq_some_iff.1 hoPr).1
      clear hoPr hfb HS
      by_cases hk0 : bits .and .i64 kd 1 = 0
      · have HPT := Lib.hid (show part ⟨kd, wd, nm, oa, oc, od⟩ = by8 8 nm from if_pos hk0)
        have H1 := Num_any w.heap.size p vw (pre F k) 8 nm wb hoPb (Sb.own (vw, pre F k) (by simp)) (fun e => Sb.pne (vw, pre F k) (by simp) p e (by simp)) Sb.fr.size hok.num (by have := HLL.out; omega)
        go_wp2_with fail
        rw [← hwb]
        clear hwb
        refine H1.mono ?_
        rintro x wc ⟨rfl, v', hpu⟩
        clear H1
        have S1 := Lib.hid (Sb.puts [] [] hpu (by simp))
        have hoP := hpu.obj
        clear hpu Sb hoPb hbo
        go_wp2_with fail
        go_roundw
        case rel => exact ⟨k + 1, v', by omega, by go_num, by have := S1.out.less; rw [HPRE.out, HPT.out]; exact this, hoP⟩
        case measure => simp [intOf] <;> omega
      · have HPT := Lib.hid (show part ⟨kd, wd, nm, oa, oc, od⟩ = by8 4 od.length ++ od from if_neg hk0)
        have hd : ¬ bits .and .i64 kd 1 = 0 := hk0
        have x3w : wb.cell? ⟨bo, 3, none⟩ = some (.slice oa od.length oc) := cell_of_row wb bo 3 _ _ _ hbo
        rw [hbo0] at x3w
        have H1 := Num_any w.heap.size p vw (pre F k) 4 od.length wb hoPb (Sb.own (vw, pre F k) (by simp)) (fun e => Sb.pne (vw, pre F k) (by simp) p e (by simp)) Sb.fr.size (by have := HD.out; omega) (by have := HLL.out; omega)
        go_wp2_with fail
        rw [← hwb]
        clear hwb
        refine H1.mono ?_
        rintro x wc ⟨rfl, v', hpu⟩
        clear H1
        have S1 := Sb.puts [] [] hpu (by simp)
        have hvbo : vw.ownBlock ≠ some bo := fun e => Sb.pne (vw, pre F k) (by simp) bo e (by simp)
        have hoPc := hpu.obj
        have hoBc := hpu.fr.obj hbo (by simp [hvbo]; omega)
        have x3 : wc.cell? ⟨bo, 3, none⟩ = some (.slice oa od.length oc) := cell_of_row wc bo 3 _ _ _ hoBc
        rw [hbo0] at x3
        have x3a := ((Fr.refl [] wc).alloc (.cells #[] 5)).cell x3 (by simp)
        have S1a := S1.still ((Fr.refl _ wc).alloc (.cells #[] 5))
        have hoPa := ((Fr.refl [] wc).alloc (.cells #[] 5)).obj hoPc (by simp)
        have hbd := hok.bytes.keep S1a.fr
        have HNN := Lib.hid hok.none
        have HS1c := Lib.hid S1
        have HP1c := Lib.hid hoPc
        clear hpu S1 Sb hoPb hbo hvbo x3w hoPc hoBc S1a hoPa
        go_wp2_with (at_builtin; refine wpList_apB _ rfl _ _ 22 rfl wc.heap.size 5 Try.underlying22 info8 (.slice (some ⟨wc.heap.size, 0, none⟩) 0 0) [] rfl (own_empty wc 5) oa _ oc od rfl rfl hbd HNN.out (by have := HD.out; simp; omega) (by simp) ?_; intro vq wz happ; have hfz : Fr [] wc wz := ((Fr.refl _ _).alloc _).next happ.fr (by intro i hi hlt; simp [Value.ownBlock] at hi; omega); have hfy : Fr [wc.heap.size] (wc.alloc (.cells #[] 5)) wz := happ.fr; have ho' := happ.own; rw [List.nil_append] at ho'; obtain ⟨aq, cq, rfl, hbq, _, _, hnq, _⟩ := Bytes.of_own ho'; have HFZ := Lib.hid hfz; have HNQ := Lib.hid hnq; clear happ ho' hfz hfy hnq)
        have S2 := HS1c.out.still HFZ.out
        have hoPz := HFZ.out.obj HP1c.out (by simp)
        have H2 := Raw_any w.heap.size p v' (pre F k ++ numB 4 od.length) aq cq od wz hoPz (S2.own (v', pre F k ++ numB 4 od.length) (by simp)) (fun e => S2.pne (v', pre F k ++ numB 4 od.length) (by simp) p e (by simp)) S2.fr.size hbq HNQ.out (by rw [List.length_append, numB4, by8_length]; have := HLL.out; have := HD.out; omega)
        refine H2.mono ?_
        rintro x wy ⟨rfl, v3, hpu⟩
        clear H2
        have S3 := Lib.hid (S2.puts [] [] hpu (by simp))
        have hoP := hpu.obj
        clear hpu S2 hoPz
        go_wp2_with fail
        go_roundw
        case rel => exact ⟨k + 1, v3, by omega, by go_num, by have := S3.out.less; rw [HPRE.out, HPT.out, ← List.append_assoc]; exact this, hoP⟩
        case measure => simp [intOf] <;> omega
    · have hks := Lib.hid (show k = sn by omega)
      have H1 := Bytes_any w.heap.size p vw (pre F k) wr hoPr (HS.out.own (vw, pre F k) (by simp)) (by have := HLL.out; omega)
      go_wp2_with fail
      refine H1.mono ?_
      rintro x wc ⟨u, rfl, hgot⟩
      clear H1
      have hfc := HS.out.fr.trans hgot.2
      by_cases h0 : sn = 0
      · have hp0 : pre F k = [] := by rw [hks.out, h0]; rfl
        rw [hp0] at hgot
        obtain ⟨au, cu, rfl, hbu, _, hnu, _⟩ := hgot.bytes
        have H2 := NewReader_gen au cu [] wc (by simp) hnu hbu
        clear hgot hnu hp0
        go_wp2_with fail
        refine H2.mono ?_
        rintro x wd ⟨pr, av, cv, rfl, hrd, hfd⟩
        clear H2
        subst h0
        have HRD := Lib.hid hrd
        have HFD := Lib.hid (hfc.trans hfd)
        clear hrd hfd hfc
        obtain ⟨wl, hwl⟩ : ∃ wl, wl = wd := ⟨_, rfl⟩
        go_wp2_with fail
        go_loopw [8, 9, 49] (fun _ _ i wr => i = .int .i64 0 ∧ wr = wd) (fun _ _ _ _ => 0)
        case atStart => exact ⟨rfl, rfl⟩
        case round =>
          obtain ⟨rfl, rfl⟩ := hrel
          go_wp2_with fail
          refine (Left_any pr av 0 cv 0 _ HRD.out).mono ?_
          rintro x wf ⟨rfl, rfl⟩
          go_wp2_with fail
          refine (End_any pr av 0 cv 0 _ HRD.out).mono ?_
          rintro x wf ⟨rfl, rfl⟩
          go_wp2
          go_ret
          exact ⟨rfl, HFD.out⟩
      · have hpos : 0 < (pre F k).length := by rw [hks.out]; exact pre_pos F sn (by omega)
        obtain ⟨gu, cu, rfl, hgu, hltu, hcu⟩ := hgot.addr hpos
        have H2 := NewReader_any ⟨gu, 0, none⟩ cu (pre F k) wc (by have := HLL.out; omega) (own_bytes hgot.1)
        clear hgot hgu hltu hcu
        go_wp2_with fail
        refine H2.mono ?_
        rintro x wd ⟨pr, g, cg, rfl, hrd, hcg, hbg, hgl, hgp, hpl, hfd⟩
        clear H2
        have hst : RdSt wd (pre F k) pr g 0 0 := ⟨⟨some ⟨g, 0, none⟩, (pre F k).length, cg, hrd, fun _ => ⟨0, rfl, by omega, hcg, fun _ => rfl⟩, fun h => absurd rfl h⟩, by omega⟩
        have HST := Lib.hid hst
        have HBG := Lib.hid hbg
        have HFD := Lib.hid (hfc.trans hfd)
        have hgw : w.heap.size ≤ g := by have := hfc.size; omega
        clear hst hbg hrd hcg hgl hpl hfd hfc
        go_wp2_with fail
        go_loopw [8, 9, 49] (fun _ _ i wr => ∃ j : Nat, j ≤ sn ∧ i = .int .i64 j ∧ RdSt wr (pre F k) pr g (pre F j).length 0 ∧ Bytes wr (some ⟨g, 0, none⟩) (pre F k) ∧ Fr [] w wr) (fun _ _ i _ => sn - (intOf i).toNat)
        case atStart => exact ⟨0, by omega, rfl, HST.out, HBG.out, HFD.out⟩
        case round =>
          obtain ⟨j, hj, rfl, hst, hbw, hfw⟩ := hrel
          have HW := Lib.hid hst
          have HY := Lib.hid hbw
          have HZ := Lib.hid hfw
          clear hst hbw hfw HST HBG HFD
          by_cases hjl : j < sn
          · obtain ⟨rest, hrest⟩ := pre_at F sn j hjl
            have HAT := Lib.hid (show pre F k = pre F j ++ (part (F j) ++ rest) by rw [hks.out]; exact hrest)
            clear hrest
            obtain ⟨b, off, rfl, d0, d1, d2, d3⟩ := (hops.keep HZ.out).cell j hjl
            rw [← Nat.add_assoc] at d1 d2 d3
            have hok := hops.ok j hjl
            have hdl := hsm j hjl
            have HPRE := Lib.hid (show pre F (j + 1) = pre F j ++ part (F j) from rfl)
            generalize F j = o at d0 d1 d2 d3 hok hdl HPRE HAT
            obtain ⟨kd, wd', nm, oa, oc, od⟩ := o
            have HD := Lib.hid (show od.length ≤ 1048576 from hdl)
            clear hdl
            by_cases hk0 : bits .and .i64 kd 1 = 0
            · have HPT := Lib.hid (show part ⟨kd, wd', nm, oa, oc, od⟩ = by8 8 nm from if_pos hk0)
              have HNA := Lib.hid (num_at (pre F k) (pre F j) (by8 8 nm) rest (by rw [← HPT.out]; exact HAT.out) 8 rfl (by rw [by8_length]; rfl))
              obtain ⟨bo, hbo0⟩ : ∃ bo, bo = wr.heap.size := ⟨_, rfl⟩
              obtain ⟨wb, hwb⟩ : ∃ wb, wb = wr.alloc (.cells #[.int .i64 kd, .int .i64 wd', .int .u64 (U nm), .slice oa od.length oc] 50) := ⟨_, rfl⟩
              have hfb : Fr [] wr wb := by rw [hwb]; exact (Fr.refl _ _).alloc _
              have hbo : wb.cell? ⟨wr.heap.size, 2, none⟩ = some (.int .u64 (U nm)) := by rw [hwb]; exact cell_of_row _ _ 2 _ _ _ (heap_alloc_new wr _)
              have HB := Lib.hid (HW.out.fr hfb (by simp))
              have HBY := Lib.hid (HY.out.keep hfb)
              have HBF := Lib.hid (HZ.out.trans hfb)
              go_wp2_with fail
              rw [← hwb]
              clear hwb hfb
              have hlp : pr < wr.heap.size := by obtain ⟨⟨_, _, _, hr, _⟩, _⟩ := HW.out; exact (Array.getElem?_eq_some_iff.1 hr).1
              go_region_held3 (fun w' => w'.cell? ⟨wr.heap.size, 2, none⟩ = some (.int .u64 (U nm)))
                (first
                  | assumption
                  | exact hbo
                  | exact hf7.cell (by assumption) (by simp; omega))
                (first
                  | (go_at_call 25; refine (RdNum_any (pre F k) pr g _ 0 8 _ (HB.out.fr ((Fr.refl [] _).drew) (by simp)) (by have := HLL.out; omega) (HBY.out.keep ((Fr.refl [] _).drew)) (by omega)).mono ?_; rintro x w7 ⟨rfl, hst7, hf7⟩))
              all_goals
                have e1 : rNum (pre F k) (pre F j).length 0 8 = nm := HNA.out.1.trans (be8 nm hok.num)
                have hst8 := hst7
                have e2 : rAt (pre F k) (isWd 8) (pre F j).length 0 8 = (pre F (j + 1)).length := by rw [HNA.out.2.1, HPRE.out, HPT.out, List.length_append]
                rw [e2, HNA.out.2.2] at hst8
                rw [e1]
                have HS8 := Lib.hid hst8
                clear hst7 hst8 e1 e2
                go_wp2
                go_roundw
                case rel => exact ⟨j + 1, by omega, by go_num, HS8.out, HBY.out.fr (((Fr.refl [pr] _).drew).trans hf7) (.inr fun ad e => by cases e; simp; omega), HBF.out.next (((Fr.refl [pr] _).drew).trans hf7) (by simp; omega)⟩
                case measure => simp [intOf] <;> omega
            · have hbig : ¬ (2147483648 : Int) < (od.length : Int) := by have := HD.out; omega
              have HPT := Lib.hid (show part ⟨kd, wd', nm, oa, oc, od⟩ = by8 4 od.length ++ od from if_neg hk0)
              have HNA := Lib.hid (num_at (pre F k) (pre F j) (by8 4 od.length) (od ++ rest) (by rw [HAT.out, HPT.out, List.append_assoc]) 4 rfl (by rw [by8_length]; rfl))
              have hl4 : (pre F j ++ by8 4 od.length).length = (pre F j).length + 4 := by rw [List.length_append, by8_length]
              have HTA := take_at (pre F k) (pre F j ++ by8 4 od.length) od rest (by rw [HAT.out, HPT.out]; simp)
              rw [hl4] at HTA
              have HTT := Lib.hid HTA
              clear HTA hl4
              obtain ⟨wb, hwb⟩ : ∃ wb, wb = wr.alloc (.cells #[.int .i64 kd, .int .i64 wd', .int .u64 (U nm), .slice oa od.length oc] 50) := ⟨_, rfl⟩
              have hfb : Fr [] wr wb := by rw [hwb]; exact (Fr.refl _ _).alloc _
              have hbo : wb.cell? ⟨wr.heap.size, 3, none⟩ = some (.slice oa od.length oc) := by rw [hwb]; exact cell_of_row _ _ 3 _ _ _ (heap_alloc_new wr _)
              have HB := Lib.hid (HW.out.fr hfb (by simp))
              have HBY := Lib.hid (HY.out.keep hfb)
              have HBF := Lib.hid (HZ.out.trans hfb)
              have hlp : pr < wr.heap.size := by obtain ⟨⟨_, _, _, hr, _⟩, _⟩ := HW.out; exact (Array.getElem?_eq_some_iff.1 hr).1
              go_wp2_with fail
              rw [← hwb]
              clear hwb hfb
              refine (RdNum_any (pre F k) pr g _ 0 4 wb HB.out (by have := HLL.out; omega) HBY.out (by omega)).mono ?_
              rintro x w7 ⟨rfl, hst7, hf7⟩
              have e1 : rNum (pre F k) (pre F j).length 0 4 = od.length := HNA.out.1.trans (be4 _ (by have := HD.out; omega))
              rw [e1]
              rw [HNA.out.2.1, HNA.out.2.2, by8_length] at hst7
              have x3 := hf7.cell hbo (by simp; omega)
              have hby7 := Lib.hid (HBY.out.fr hf7 (.inr fun ad e => by cases e; simp; omega))
              have HS7 := Lib.hid hst7
              have hfw7 := Lib.hid (HBF.out.next hf7 (by simp; omega))
              clear hst7 e1 hbo hf7
              have HIN := Lib.hid (show (pre F j).length + 4 + od.length = (pre F (j + 1)).length by rw [HPRE.out, HPT.out, List.length_append, List.length_append, by8_length]; omega)
              go_wp2_with fail
              go_region_held3 (fun w' => w'.cell? ⟨wr.heap.size, 3, none⟩ = some (.slice oa od.length oc))
                (first
                  | assumption
                  | exact x3
                  | exact hf8.cell (by assumption) (by simp; omega)
                  | exact hf9.cell (by assumption) (by simp))
                (first
                  | (go_at_call 27; refine (RdRaw_any (pre F k) pr g _ 0 _ _ (HS7.out.fr ((Fr.refl [] _).drew) (by simp)) (by have := HLL.out; omega) (hby7.out.keep ((Fr.refl [] _).drew)) (by omega)).mono ?_; rintro x w8 ⟨v8, rfl, hown8, hst8, hf8⟩; rw [HTT.out.1] at hown8; rw [HTT.out.2.1, HTT.out.2.2, HIN.out] at hst8; obtain ⟨a8, c8, rfl, ha8, _⟩ := Bytes.of_own hown8; have HS8 := Lib.hid hst8; have HF8 := Lib.hid hf8; have HA8 := Lib.hid ha8; have hod8 := Lib.hid (hok.bytes.keep ((hfw7.out.trans ((Fr.refl [] _).drew)).next hf8 (by simp; omega))); clear hst8 ha8 hown8)
                  | (go_at_call 15; refine (same_yes a8 oa c8 oc od _ (by have := HD.out; omega) HA8.out hod8.out).mono ?_; rintro x w9 ⟨rfl, hf9⟩))
              all_goals
                go_wp2
                go_roundw
                case rel => exact ⟨j + 1, by omega, by go_num, HS8.out.fr hf9 (by simp), (hby7.out.fr (((Fr.refl [pr] _).drew).trans HF8.out) (.inr fun ad e => by cases e; simp; omega)).keep hf9, ((hfw7.out.trans ((Fr.refl [] _).drew)).next HF8.out (by simp; omega)).trans hf9⟩
                case measure => simp [intOf] <;> omega
          · have hjs : pre F j = pre F k := by rw [hks.out, show j = sn by omega]
            have hl0 : rLeft (pre F k) (pre F j).length 0 = 0 := by unfold rLeft; rw [if_neg (by simp), hjs]; omega
            have he0 : rEnd (pre F k) (pre F j).length 0 = 0 := by unfold rEnd; rw [if_neg]; rw [hjs]; omega
            have H3 := RdLeft_st (pre F k) pr g _ 0 wr HW.out
            have H4 := RdEnd_st (pre F k) pr g _ 0 wr HW.out
            rw [hl0] at H3
            rw [he0] at H4
            clear hl0 he0 hjs
            go_wp2_with fail
            refine H3.mono ?_
            rintro x wf ⟨rfl, rfl⟩
            go_wp2_with fail
            refine H4.mono ?_
            rintro x wf ⟨rfl, rfl⟩
            go_wp2
            go_ret
            exact ⟨rfl, HZ.out⟩
end Go.Proofs.Ytnmfejlhbgockaa
