/- Frames: the walk of the document's Pack. -/
import Derived.Test.YtkgfdcagninphaaDoorFrB
namespace Go.Proofs.YtkgfdcagninphaaDoor
open Go.RowKit
attribute [local go_sem ↓] Go.wp_at_zero Go.wp_at_succ
theorem step_appC {P : Program} {ops : Array Oper} {o : Oper} {a : Act} {w : World} {K : Act → World → Prop} {Q : Exit → Act → World → Prop} {E : Prop}
    (hg : o.guard = none) (s x : Operand) (t : TypeId) (hop : o.op = Op.call { callee := Callee.builtin Builtin.append, args := #[s, x], argTypes := #[t, t] })
    (base : Nat) (e : TypeId) (ht : P.underlying t = some (.slice e)) (hinfo : (P.info? e).map (fun i => (i.zero, i.size, i.bytes)) = some (some (.int .u8 0), 1, 1))
    (v : Value) (xs : List UInt8) (hs : a.eval s = v) (hown : w.ownsRow base e 1 v xs.length (xs.map B8))
    (ao : Option Addr) (m c : Nat) (l : List UInt8) (hx : a.eval x = .slice ao m c) (hl : l.length = m) (hb : Bytes w ao l) (hnone : ao = none → c = 0)
    (hroom : xs.length + m ≤ 140737488355328) (hbase : base ≤ w.heap.size)
    (hK : ∀ v' w', AppB w w' base e v v' xs l → K (a.put o.dst v') w') :
    if Region.wanted o (yielded ops a.tmps) = true then Oper.wp P o a w K Q else E := by
  subst hl
  have hw : Region.wanted o (yielded ops a.tmps) = true := by simp [Region.wanted, hg]
  rw [if_pos hw]
  obtain ⟨i, hi, hz, hsz2, hby⟩ := info_parts hinfo
  obtain ⟨v', w', hr, ha⟩ := run_appS (P := P) w base t o.type e i (.int .u8 0) 1 1 ht hi hz hsz2 hby rfl (by decide) v xs.length (xs.map B8) hown ao l.length c (l.map B8) (by simp) (by
      rintro ad rfl
      exact hb.news) (by
      rintro rfl
      rcases hb with rfl | ⟨_, _, h, _⟩
      · exact ⟨rfl, hnone rfl⟩
      · cases h) (B8_one l) (by unfold maxLen; omega) (by omega) hbase
  unfold Oper.wp
  simp [execOp, hop, resolve, invoke, builtin, hs, hx, hr, Result.andThen]
  exact hK v' w' ⟨by rw [List.length_append, List.map_append]; exact ha.own, ha.old, ha.grown, ha.blk, ha.nil⟩
theorem own_one (w : World) (x : UInt8) : (w.alloc (.cells #[.int .u8 (I8 x)] 5)).ownsRow w.heap.size 5 1 (.slice (some ⟨w.heap.size, 0, none⟩) 1 1) [x].length ([x].map B8) :=
  ⟨by simp, .inr ⟨w.heap.size, 1, _, rfl, Nat.le_refl _, heap_alloc_new w _, Nat.le_refl _, by unfold maxLen; omega, rfl, rfl⟩⟩
theorem grow_appF {w0 wr w1 : World} {v v' : Value} {xs l : List UInt8} (h : Grow [] w0 wr v xs) (ha : AppB wr w1 w0.heap.size 5 v v' xs l) : Grow [] w0 w1 v' (xs ++ l) ∧ Fr v.ownBlock.toList wr w1 := ⟨h.app ha, ha.fr⟩
theorem wrap8_nat {z : Int} (h0 : 0 ≤ z) (h1 : z ≤ 255) : IntKind.u8.wrap z = I8 (UInt8.ofNat z.toNat) := by
  rw [wrap8_in z h0 h1, I8_of_nat _ (by omega)]
  omega
set_option maxRecDepth 100000 in
set_option maxHeartbeats 3200000 in
theorem refPack_any (z : Int) (a : Option Addr) (c : Nat) (d : List UInt8) (w : World) (hl : d.length ≤ 140737488351300) (hno : a = none → c = 0) (hb : Bytes w a d) :
    Calls Tryd.prog 14 #[.agg #[.int .i64 z, .slice a d.length c]] w fun e w' => PackG w w' e z d := by
  have HB := Lib.hid hb
  have HNO := Lib.hid hno
  clear hb hno
  by_cases hz : z < 0 ∨ 255 < z
  · have HER := Lib.hid (errP_arg (d := d) hz)
    rcases hz with hz | hz
    · have hd : decide (z < 0) = true := decide_eq_true hz
      go_enter Tryd.func14, Tryd.ntmps14
      go_wp2
      go_ret2
      refine ⟨some ⟨w.heap.size + 1, 0, none⟩, 0, by rw [fL_no (by rw [HER.out]; decide), HER.out]; rfl, ?_, ((Fr.refl _ _).alloc _).alloc _⟩
      rw [fL_no (by rw [HER.out]; decide)]
      have := own_empty (w.alloc (.cells #[.int .i64 z, .slice a d.length c] 25)) 5
      exact own_base (by simpa using this) (by simp)
    · have hd : decide (z < 0) = false := decide_eq_false (by omega)
      have hd2 : decide (255 < z) = true := decide_eq_true hz
      go_enter Tryd.func14, Tryd.ntmps14
      go_wp2
      go_ret2
      refine ⟨some ⟨w.heap.size + 1, 0, none⟩, 0, by rw [fL_no (by rw [HER.out]; decide), HER.out]; rfl, ?_, ((Fr.refl _ _).alloc _).alloc _⟩
      rw [fL_no (by rw [HER.out]; decide)]
      have := own_empty (w.alloc (.cells #[.int .i64 z, .slice a d.length c] 25)) 5
      exact own_base (by simpa using this) (by simp)
  · have hd : decide (z < 0) = false := decide_eq_false (by omega)
    have hd2 : decide (255 < z) = false := decide_eq_false (by omega)
    by_cases hlong : 1048576 < d.length
    · have HER := Lib.hid (errP_long hz hlong)
      have hd3 : decide ((1048576 : Int) < (d.length : Int)) = true := decide_eq_true (by omega)
      clear hz
      go_enter Tryd.func14, Tryd.ntmps14
      go_wp2
      go_ret2
      refine ⟨some ⟨w.heap.size + 1, 0, none⟩, 0, by rw [fL_no (by rw [HER.out]; decide), HER.out]; rfl, ?_, ((Fr.refl _ _).alloc _).alloc _⟩
      rw [fL_no (by rw [HER.out]; decide)]
      have := own_empty (w.alloc (.cells #[.int .i64 z, .slice a d.length c] 25)) 5
      exact own_base (by simpa using this) (by simp)
    · have HER := Lib.hid (errP_ok hz hlong)
      have hd3 : decide ((1048576 : Int) < (d.length : Int)) = false := decide_eq_false (by omega)
      obtain ⟨x, hx⟩ : ∃ x, x = UInt8.ofNat z.toNat := ⟨_, rfl⟩
      have q1 : IntKind.u8.wrap z = I8 x := by rw [hx]; exact wrap8_nat (by omega) (by omega)
      have q2 : IntKind.u64.wrap (d.length : Int) = (d.length : Int) := wrapU_int _ (by omega) (by omega)
      have HDL := Lib.hid (show d.length ≤ 1048576 by omega)
      have HX := Lib.hid hx
      have HNUM : Hid (∀ w, Calls Tryd.prog 32 #[.int .i64 4, .int .u64 (d.length : Int)] w fun e w' => ∃ g cap, e = .returned (.slice (some ⟨g, 0, none⟩) 4 cap) ∧ Bytes w' (some ⟨g, 0, none⟩) (by8 4 d.length) ∧ w.heap.size ≤ g ∧ Fr [] w w') := by
        refine Lib.hid fun w => (refnum_int 4 (d.length : Int) w (by unfold Wd; omega) (by omega) (by omega)).mono ?_
        rintro e w' ⟨v, rfl, hv⟩
        rw [Int.toNat_natCast] at hv
        obtain ⟨g, cap, rfl, hg, _, hb, hf⟩ := hv.bytes
        exact ⟨g, cap, by rw [by8_length], hb, hg, hf⟩
      clear hz hlong hx
      go_enter Tryd.func14, Tryd.ntmps14
      go_upto_region 5 with fail
      obtain ⟨wa, hwa⟩ : ∃ wa, wa = w.alloc (.cells #[.int .i64 z, .slice a d.length c] 25) := ⟨_, rfl⟩
      rw [← hwa]
      have HFA := Lib.hid (show Fr [] w wa by rw [hwa]; exact (Fr.refl _ _).alloc _)
      have hba : wa.heap[w.heap.size]? = some (.cells #[.int .i64 z, .slice a d.length c] 25) := by rw [hwa]; exact heap_alloc_new w _
      have HBA := Lib.hid hba
      clear hwa hd hd2 hd3
      have hbd : wa.drew.heap[w.heap.size]? = some (.cells #[.int .i64 z, .slice a d.length c] 25) := hba
      have hlt1 := (Array.getElem?_eq_some_iff.1 hba).1
      have hbz : (wa.alloc (.cells #[.int .u8 (I8 x)] 5)).drew.heap[w.heap.size]? = some (.cells #[.int .i64 z, .slice a d.length c] 25) := ((Fr.refl [] wa).alloc _).obj hba (by simp)
      clear hba
      go_cut [4] (fun v wx => Grow [] wa wx v (x :: by8 4 d.length))
      case first =>
        have HOZ := Lib.hid (show (wa.drew.alloc (.cells #[.int .u8 (I8 x)] 5)).ownsRow wa.heap.size 5 1 (.slice (some ⟨wa.heap.size, 0, none⟩) 1 1) [x].length ([x].map B8) from own_one wa.drew x)
        go_region_held3 (fun w' => w'.cell? ⟨w.heap.size, 0, none⟩ = some (.int .i64 z) ∧ w'.cell? ⟨w.heap.size, 1, none⟩ = some (.slice a d.length c))
          (first
            | with_reducible assumption
            | exact duo hbd
            | exact duo hbz
            | exact duo (hA.obj hbd (by simp))
            | exact duo (hA.obj hbz (by simp))
            | exact duo (((Fr.refl [] _).alloc _).obj (hA.obj hbd (by simp)) (by simp))
            | exact duo (ha.fr.obj (hA.obj hbz (by simp)) (by simp [Value.ownBlock]; omega))
            | exact duo (ha.fr.obj (((Fr.refl [] _).alloc _).obj (hA.obj hbd (by simp)) (by simp)) (by have := hA.size; simp at this; simp [Value.ownBlock]; omega)))
          (first
            | (go_at_call 32; with_reducible (refine (HNUM.out _).mono ?_); rintro e wA ⟨gA, cA, rfl, hbA, hgA, hA⟩)
            | (refine step_appC rfl (.tmp 25) (.tmp 30) 23 rfl wa.heap.size 5 Tryd.underlying23 info8 (.slice (some ⟨wa.heap.size, 0, none⟩) 1 1) [x] (by simp [Act.eval, Act.put]) (own_fr HOZ.out hA (by simp)) (some ⟨gA, 0, none⟩) 4 cA (by8 4 d.length) (by simp [Act.eval, Act.put]) (by8_length ..) hbA (fun h => by cases h) (by simp) (by have := hA.size; simp at this; omega) ?_; intro vB wB ha)
            | (refine step_appC rfl (.tmp 25) (.tmp 30) 23 rfl wa.heap.size 5 Tryd.underlying23 info8 (.slice (some ⟨wA.heap.size, 0, none⟩) 1 1) [x] (by simp [Act.eval, Act.put]) (own_base (own_one wA x) hA.size) (some ⟨gA, 0, none⟩) 4 cA (by8 4 d.length) (by simp [Act.eval, Act.put]) (by8_length ..) (hbA.keep ((Fr.refl _ _).alloc _)) (fun h => by cases h) (by simp) (by have := hA.size; simp at this ⊢; omega) ?_; intro vB wB ha))
        all_goals go_wp2_with fail
        all_goals go_meet
        all_goals first
          | exact ⟨ha.own, fun e => (by have := (ha.nil.1 e).1; cases this), fun _ h => (List.not_mem_nil h).elim, ((((Fr.refl [] wa).alloc _).drew).trans hA).next ha.fr (by intro i hi hlt; simp [Value.ownBlock] at hi; omega)⟩
          | exact ⟨ha.own, fun e => (by have := (ha.nil.1 e).1; cases this), fun _ h => (List.not_mem_nil h).elim, ((((Fr.refl [] wa).drew).trans hA).alloc _).next ha.fr (by intro i hi hlt; have := hA.size; simp at this; simp [Value.ownBlock] at hi; omega)⟩
      case rest =>
        have HG := Lib.hid hcut
        have HDL2 : d.length ≤ 1048576 := HDL.out
        clear hcut hbd hbz q1 q2
        go_wp2_with fail
        go_loopw [4, 5] (fun v i wr => ∃ k : Nat, k ≤ d.length ∧ i = .int .i64 k ∧ Grow [] wa wr v (x :: by8 4 d.length ++ d.take k)) (fun _ i _ => d.length - (intOf i).toNat)
        case atStart => exact ⟨0, by omega, rfl, by simpa using HG.out⟩
        case round =>
          obtain ⟨k, hk, rfl, hgr⟩ := hrel
          have HR := Lib.hid hgr
          obtain ⟨y0, y1⟩ := duo (hgr.fr.obj HBA.out (by simp))
          have hltw : w.heap.size < wr.heap.size := (Array.getElem?_eq_some_iff.1 (hgr.fr.obj HBA.out (by simp))).1
          clear hgr
          by_cases hlt : k < d.length
          · obtain ⟨b, off, rfl, hc⟩ := HB.out.at (by omega)
            have hcell : wr.cell? ⟨b, off + k, none⟩ = some (.int .u8 (I8 (d.getD k 0))) := (HFA.out.trans HR.out.fr).cell (hc k hlt) (by simp)
            clear hc
            obtain ⟨u, hu⟩ : ∃ u, u = d.getD k 0 := ⟨_, rfl⟩
            rw [← hu] at hcell
            have HU := Lib.hid hu
            have HT := Lib.hid (show (x :: by8 4 d.length ++ d.take k).length = 5 + k by rw [List.length_append, List.length_cons, by8_length, List.length_take]; omega)
            obtain ⟨XS, hXS⟩ : ∃ XS, XS = x :: by8 4 d.length ++ d.take k := ⟨_, rfl⟩
            rw [← hXS] at HR HT
            have HXS := Lib.hid hXS
            clear hu hXS
            go_wp2_with (at_builtin; refine wpList_apB _ rfl _ _ 23 rfl wa.heap.size 5 Tryd.underlying23 info8 u4 XS rfl (HR.out.alloc _).own (some ⟨wr.heap.size, 0, none⟩) 1 1 [u] rfl rfl (Bytes.one u rfl) (fun h => by cases h) (by rw [HT.out]; omega) (HR.out.alloc _).size ?_; intro v' w1 happ; have HA := Lib.hid happ; clear happ)
            go_roundw
            case rel =>
              refine ⟨k + 1, by omega, by go_num, ?_⟩
              have e : x :: by8 4 d.length ++ d.take (k + 1) = XS ++ [u] := by
                rw [take_snoc d k hlt, HXS.out, HU.out]; simp [List.getD, hlt]
              rw [e]
              exact (HR.out.alloc _).app HA.out
            case measure => simp [intOf] <;> omega
          · have HE := Lib.hid (show x :: by8 4 d.length ++ d.take k = fH (UInt8.ofNat z.toNat) d by rw [List.take_of_length_le (by omega), HX.out]; rfl)
            have HFBE := Lib.hid (show fB (UInt8.ofNat z.toNat) d = fH (UInt8.ofNat z.toNat) d ++ sm4 (fH (UInt8.ofNat z.toNat) d) from rfl)
            have HHL := Lib.hid (show (fH (UInt8.ofNat z.toNat) d).length ≤ 1048581 by rw [fH_length]; omega)
            rw [HE.out] at HR
            generalize fH (UInt8.ofNat z.toNat) d = H at HR HFBE HHL
            have hfr := HR.out.fresh
            obtain ⟨gH, capH, rfl, _, _, hbH, _⟩ := hfr.bytes
            have HBH := Lib.hid hbH
            clear hfr hbH HE
            go_wp2_with fail
            refine (refsum_any _ _ capH H wr rfl (by have := HHL.out; omega) HBH.out).mono ?_
            rintro e w' ⟨rfl, rfl⟩
            have q3 := wrapU_I32 (P.update 0#32 H)
            have b1 := I32_lo (P.update 0#32 H)
            have b2 := I32_hi (P.update 0#32 H)
            have HSM := Lib.hid (show by8 4 (I32 (P.update 0#32 H)).toNat = sm4 H from I32_toNat _)
            generalize I32 (P.update 0#32 H) = s at q3 b1 b2 HSM ⊢
            go_wp2_with fail
            refine (refnum_int 4 s wr (by unfold Wd; omega) b1 (by omega)).mono ?_
            rintro e w2 ⟨vS, rfl, hvS⟩
            rw [HSM.out] at hvS
            obtain ⟨gS, capS, rfl, hgS, hltS, hbS, hfS⟩ := hvS.bytes
            have HBS := Lib.hid hbS
            have HG2 := Lib.hid (HR.out.next hfS gS hgS hltS)
            have HS4 := Lib.hid (sm4_length H)
            obtain ⟨S4, hS4⟩ : ∃ S4, S4 = sm4 H := ⟨_, rfl⟩
            rw [← hS4] at HBS HS4 HFBE ⊢
            clear hvS hbS hfS q3 y0 y1 hS4
            go_wp2_with fail
            go_loopw [4, 7] (fun v i wx => ∃ k : Nat, k ≤ 4 ∧ i = .int .i64 k ∧ Grow [gS] wa wx v (H ++ S4.take k) ∧ Bytes wx (some ⟨gS, 0, none⟩) S4) (fun _ i _ => 4 - (intOf i).toNat)
            case atStart => exact ⟨0, by omega, rfl, by simpa using HG2.out, HBS.out⟩
            case round =>
              obtain ⟨k2, hk2, rfl, hgr, hbs⟩ := hrel
              have HR2 := Lib.hid hgr
              have HBS2 := Lib.hid hbs
              clear hgr
              by_cases hlt2 : k2 < 4
              · have hlt3 : k2 < S4.length := by rw [HS4.out]; exact hlt2
                have hki : (k2 : Int) < (S4.length : Int) := by omega
                obtain ⟨b', off', e', hc⟩ := hbs.at (by omega)
                cases e'
                have hcell : wr.cell? ⟨gS, k2, none⟩ = some (.int .u8 (I8 (S4.getD k2 0))) := by
                  have := hc k2 hlt3
                  rwa [Nat.zero_add] at this
                clear hc hbs
                obtain ⟨u, hu⟩ : ∃ u, u = S4.getD k2 0 := ⟨_, rfl⟩
                rw [← hu] at hcell
                have HU := Lib.hid hu
                have HT := Lib.hid (show (H ++ S4.take k2).length ≤ 1048600 by rw [List.length_append, List.length_take]; have := HHL.out; omega)
                obtain ⟨XS, hXS⟩ : ∃ XS, XS = H ++ S4.take k2 := ⟨_, rfl⟩
                rw [← hXS] at HR2 HT
                have HXS := Lib.hid hXS
                clear hu hXS
                go_wp2_with (at_builtin; refine wpList_apB _ rfl _ _ 23 rfl wa.heap.size 5 Tryd.underlying23 info8 u4 XS rfl (HR2.out.alloc _).own (some ⟨wr.heap.size, 0, none⟩) 1 1 [u] rfl rfl (Bytes.one u rfl) (fun h => by cases h) (by have := HT.out; omega) (HR2.out.alloc _).size ?_; intro v' w1 happ; have HA := Lib.hid happ; clear happ)
                go_roundw
                case rel =>
                  refine ⟨k2 + 1, by omega, by go_num, ?_, (HR2.out.alloc _).keep HA.out (by simp) (HBS2.out.keep ((Fr.refl _ _).alloc _))⟩
                  have e : H ++ S4.take (k2 + 1) = XS ++ [u] := by
                    rw [take_snoc S4 k2 hlt3, HXS.out, HU.out]; simp [List.getD, hlt3]
                  rw [e]
                  exact (HR2.out.alloc _).app HA.out
                case measure => simp [intOf] <;> omega
              · have HE2 := Lib.hid (show H ++ S4.take k2 = fB (UInt8.ofNat z.toNat) d by rw [List.take_of_length_le (by rw [HS4.out]; omega), HFBE.out])
                clear hbs
                rw [HE2.out] at HR2
                go_wp2
                go_ret2
                exact PackG.yes HER.out (HR2.out.fresh.base HFA.out HFA.out.size)
end Go.Proofs.YtkgfdcagninphaaDoor
