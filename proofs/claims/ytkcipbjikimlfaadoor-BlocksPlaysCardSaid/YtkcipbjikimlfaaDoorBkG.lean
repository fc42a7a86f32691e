/- Blocks: along: the walk. -/
import Derived.Test.YtkcipbjikimlfaaDoorBkD
namespace Go.Proofs.YtkcipbjikimlfaaDoor
open Go.RowKit Go.Maps
attribute [local go_sem ↓] Go.wp_at_zero Go.wp_at_succ
theorem nm_leB1 (l : List UInt8) (q : Nat) : nm l q 1 ≤ 255 := by
  have h1 := be_lt ((l.drop q).take 1)
  have h2 : 256 ^ ((l.drop q).take 1).length ≤ 256 ^ 1 := Nat.pow_le_pow_right (by omega) (by rw [List.length_take]; omega)
  rw [nm_def]
  omega
theorem own_cap25 {w : World} {B e c : Nat} {a : Option Addr} {xs : List Value} (h : w.ownsRow B e 1 (.slice a 25 c) 25 xs) : 25 ≤ c := by
  rcases h.2 with ⟨e1, _⟩ | ⟨g, cap, cur, e1, _, _, hn, _⟩
  · cases e1
  · simp only [Value.slice.injEq] at e1
    omega
theorem own_neT {w : World} {B e size n g T : Nat} {v : Value} {xs : List Value} {cs : Array Value} (h : w.ownsRow B e size v n xs) (hh : w.heap[g]? = some (.cells cs T)) (he : e ≠ T) : v.ownBlock ≠ some g := by
  intro hg
  rcases h.2 with ⟨rfl, _⟩ | ⟨g', cap, cur, rfl, _, h2, _⟩
  · cases hg
  · simp only [Value.ownBlock, Option.some.injEq] at hg
    subst hg
    rw [hh] at h2
    have := Option.some.inj h2
    simp only [Obj.cells.injEq] at this
    exact he this.2.1.symm
theorem infoBL : (Tryd.prog.info? 73).map (fun i => (i.zero, i.size, i.bytes)) = some (some (.agg #[.int .i64 0, .int .i64 0, .int .i64 0, .slice none 0 0]), 4, 48) := by kernel_rfl
def lenV : Value → Nat | .slice _ n _ => n | _ => 0
def AlP (R : Recs) (w w' : World) (e : Ending) (r : List Nat × Int) : Prop := ∃ v4 v5 X, e = .returned (.tuple #[v4, v5, .int .i64 r.2]) ∧
      w'.ownsRow w.heap.size 3 1 v4 r.1.length (r.1.map fun (k : Nat) => Value.int .i64 k) ∧ AL w' w.heap.size v5 X ∧ X.map BI.d = r.1.map (recAt R) ∧ Fr [] w w'
set_option maxRecDepth 100000 in
set_option maxHeartbeats 6400000 in
theorem along_F (B : Nat) (bs : List Nat) (w : World) (p : Nat) (s : RFS) (first : Int) (h : RF B bs w p s) :
    Calls Tryd.prog 36 #[.pointer (some ⟨p, 0, none⟩), .int .i64 first] w fun e w' => AlP s.R w w' e (walkE s first) := by
  have hmm := @run_makeMap Tryd.prog
  have hok := h.ok
  have HR := Lib.hid h
  have HOK := Lib.hid hok
  have HSZ := Lib.hid (Size_F B bs w p s h)
  have HG := Lib.hid (Get_F B bs w p s first h)
  clear h hok
  by_cases h32 : s.sz = 32
  · rw [h32] at HSZ
    cases hu : usedR s.R first with
    | false =>
      have HW : Hid (walkE s first = ([], 3)) := Lib.hid (by unfold walkE walkS; rw [if_neg (by omega), hu]; rfl)
      rw [hu] at HG
      go_enter Tryd.func36, Tryd.ntmps36
      go_wp2_with fail
      refine HSZ.out.mono ?_
      rintro e w' ⟨rfl, rfl⟩
      go_wp2_with fail
      refine HG.out.mono ?_
      rintro e w2 ⟨v, rfl, hg⟩
      have HF2 := Lib.hid hg.2
      clear hg
      go_wp2
      go_ret3
      refine ⟨.slice none 0 0, .slice none 0 0, [], ?_⟩
      rw [HW.out]
      exact ⟨rfl, World.ownsRow_nil _ _ _ _, AL.nil _ _, rfl, HF2.out⟩
    | true =>
      obtain ⟨h0, h1, -⟩ := usedR_lt hu
      obtain ⟨F, rfl⟩ : ∃ F : Nat, first = F := ⟨first.toNat, by omega⟩
      have HU := Lib.hid hu
      rw [hu] at HG
      have HW : Hid (walkE s F = walkN s.R F (s.R.length + 1) [] F) := Lib.hid (by unfold walkE walkS; rw [if_neg (by omega), hu]; simp)
      rw [HW.out]
      clear hu
      go_enter Tryd.func36, Tryd.ntmps36
      go_wp2_with fail
      refine HSZ.out.mono ?_
      rintro e w' ⟨rfl, rfl⟩
      go_wp2_with fail
      refine HG.out.mono ?_
      rintro e w2 ⟨v, rfl, hg⟩
      have HF2 := Lib.hid hg.2
      clear hg
      go_wp2
      obtain ⟨w3, hw3⟩ : ∃ w3, w3 = w2.alloc (.map #[] 0) := ⟨_, rfl⟩
      rw [← hw3]
      obtain ⟨mb, hmb⟩ : ∃ mb, mb = w2.heap.size := ⟨_, rfl⟩
      rw [← hmb]
      have HF3 := Lib.hid (show Fr [] w2 w3 by rw [hw3]; exact (Fr.refl _ _).alloc _)
      have HMM := Lib.hid (show MetM w3 mb 0 [] by rw [hw3, hmb]; exact MetM.made _)
      have HMB := Lib.hid (show w2.heap.size ≤ mb by omega)
      clear hw3 hmb hmm
      go_loopw [4, 5, 10] (fun q4 q5 q10 wr => ∃ (met : List Nat) (X : List BI) (id : Int), q10 = .int .i64 id ∧ LJ w2 wr mb met.length met met X q4 q5 ∧ X.map BI.d = met.map (recAt s.R) ∧ met.Nodup ∧ (∀ i ∈ met, usedR s.R (i : Nat) = true) ∧ (id = -1 ∨ usedR s.R id = true) ∧ walkN s.R F (s.R.length + 1 - met.length) met id = walkN s.R F (s.R.length + 1) [] F) (fun q4 _ _ _ => s.R.length + 1 - lenV q4)
      case atStart =>
        exact ⟨[], [], F, rfl, ⟨World.ownsRow_nil _ _ _ _, AL.nil _ _, HMM.out, HF3.out, HMB.out⟩, rfl, List.nodup_nil, fun i hi => absurd hi (by simp), .inr HU.out, rfl⟩
      case round =>
        obtain ⟨met, X, id, rfl, hj, hx, hnd, hmu, hid, hwk⟩ := hrel
        obtain ⟨a4, c4, rfl⟩ := own_slR hj.i4
        obtain ⟨a5, c5, rfl⟩ := own_slR hj.al.row
        have HXL := Lib.hid (show X.length = met.length by have := congrArg List.length hx; simpa using this)
        have HJ := Lib.hid hj
        have HX := Lib.hid hx
        have HND := Lib.hid hnd
        have HMU := Lib.hid hmu
        have HWK := Lib.hid hwk
        have HML := Lib.hid (show met.length ≤ s.R.length from nodup_le _ hnd fun i hi => by
          have := (usedR_lt (hmu i hi)).2.1
          omega)
        clear hj hx hnd hmu hwk
        by_cases hn : id = -1
        · subst hn
          go_wp2_with fail
          go_ret3
          refine ⟨.slice a4 met.length c4, .slice a5 X.length c5, X, ?_⟩
          rw [← HWK.out, walkN_end]
          exact ⟨rfl, own_base HJ.out.i4 HF2.out.size, ⟨own_base HJ.out.al.row HF2.out.size, fun x hx => own_base (HJ.out.al.dat x hx) HF2.out.size⟩, HX.out, HF2.out.trans HJ.out.fr⟩
        · have hus : usedR s.R id = true := hid.resolve_left hn
          obtain ⟨h0, h1, hd⟩ := usedR_lt hus
          obtain ⟨k, rfl⟩ : ∃ k : Nat, id = k := ⟨id.toNat, by omega⟩
          have hk65 : k < 65536 := by have := HOK.out.len; omega
          obtain ⟨d, hd⟩ := hd
          rw [Int.toNat_natCast] at hd
          have HD := Lib.hid hd
          have HUS := Lib.hid hus
          have hni : ((k : Int) != -1) = true := by rw [bne_iff_ne]; omega
          have hk0 : (0 : Int) ≤ (k : Int) := by omega
          clear hd hid hus hn h0 h1
          have hlk := HJ.out.mm.look k (by omega)
          by_cases hm : k ∈ met
          · rw [if_pos hm] at hlk
            obtain ⟨w4, hup, hf4, hl4, -⟩ := HJ.out.mm.up k (by omega) (by have := HML.out; have := HOK.out.len; omega) 2 (by omega)
            replace hup : (Instr.mapUpdate 113 (.map (some mb)) (.int .i64 (k : Int)) (.int .i64 2)).run Tryd.prog wr = .ok () w4 := hup
            replace hl4 : (Instr.lookup 113 (.map (some mb)) (.int .i64 (k : Int)) false).run Tryd.prog w4 = .ok (.int .i64 2) w4 := hl4
            have HF4 := Lib.hid hf4
            have e1 : IntKind.i64.wrap ((1 : Int) + 1) = 2 := by decide
            have HM := Lib.hid hm
            clear hf4 hm
            go_wp2_with fail
            go_ret3
            refine ⟨.slice none 0 0, .slice none 0 0, [], ?_⟩
            rw [← HWK.out, walkN_met HM.out]
            exact ⟨rfl, World.ownsRow_nil _ _ _ _, AL.nil _ _, rfl, HF2.out.trans (HJ.out.fr.next HF4.out (fun i hi hlt => by simp at hi; have := HJ.out.hmb; omega))⟩
          · rw [if_neg hm] at hlk
            obtain ⟨w4, hup, hf4, hl4, hm4⟩ := HJ.out.mm.up k (by omega) (by have := HML.out; have := HOK.out.len; omega) 1 (by omega)
            replace hup : (Instr.mapUpdate 113 (.map (some mb)) (.int .i64 (k : Int)) (.int .i64 1)).run Tryd.prog wr = .ok () w4 := hup
            replace hl4 : (Instr.lookup 113 (.map (some mb)) (.int .i64 (k : Int)) false).run Tryd.prog w4 = .ok (.int .i64 1) w4 := hl4
            have HJ4 := Lib.hid (HJ.out.map hf4 (hm4 rfl))
            have HS4 := Lib.hid hf4.size
            have e1 : IntKind.i64.wrap ((0 : Int) + 1) = 1 := by decide
            have HM := Lib.hid hm
            clear hf4 hm4 hm
            go_wp2_with fail
            have hG2 := Get_F B bs w4 p s (k : Int) (HR.out.keep (HF2.out.trans HJ4.out.fr))
            rw [HUS.out] at hG2
            refine hG2.mono ?_
            clear hG2
            rintro e w5 ⟨gv, rfl, hg⟩
            rw [(getRd_some HD.out).2] at hg
            have hd31 : d.length = 31 := by have := HOK.out.dat d (List.mem_of_getElem? HD.out); omega
            have HD31 := Lib.hid hd31
            have hd2 := hg.2
            obtain ⟨ag, cg, rfl, hgb, -⟩ := hg.bytes
            have HGB := Lib.hid hgb
            have HF5 := Lib.hid hd2
            clear hg hgb hd2 hlk hup hl4 e1 hd31
            go_wp2_with fail
            refine (parse_F ag cg d w5 HD31.out HGB.out).mono ?_
            rintro e w6 ⟨pv, rfl, hpo, hpf⟩
            obtain ⟨pa, pc, hpv⟩ := own_slR hpo
            subst hpv
            obtain ⟨st, hst⟩ : ∃ st, st = pSt d := ⟨_, rfl⟩
            obtain ⟨us, hus⟩ : ∃ us, us = pUs d := ⟨_, rfl⟩
            obtain ⟨nx, hnx⟩ : ∃ nx, nx = pNx d := ⟨_, rfl⟩
            rw [← hst, ← hus, ← hnx]
            have HST := Lib.hid hst
            have HUU := Lib.hid hus
            have HNX := Lib.hid hnx
            have HPO := Lib.hid hpo
            have HF6 := Lib.hid (HF5.out.trans hpf)
            clear hst hus hnx hpo hpf
            go_upto_region 14 with fail
            obtain ⟨wb, hwb⟩ : ∃ wb, wb = w6.alloc (.cells #[.int .i64 st, .int .i64 us, .int .i64 nx, .slice pa 25 pc] 73) := ⟨_, rfl⟩
            rw [← hwb]
            obtain ⟨bx, hbx⟩ : ∃ bx, bx = w6.heap.size := ⟨_, rfl⟩
            rw [← hbx]
            have HBX := Lib.hid (show wb.heap[bx]? = some (.cells #[.int .i64 st, .int .i64 us, .int .i64 nx, .slice pa 25 pc] 73) by rw [hwb, hbx]; exact heap_alloc_new w6 _)
            have hfb : Fr [] w6 wb := by rw [hwb]; exact (Fr.refl _ _).alloc _
            have HFB := Lib.hid (HF6.out.trans hfb)
            have HPB := Lib.hid (own_fr HPO.out hfb (by simp))
            have HBXW := Lib.hid (show w6.heap.size ≤ bx by omega)
            have hS : s.R[k]? = some (some d) := HD.out
            have HREC := Lib.hid (show recAt s.R k = d by unfold recAt; rw [List.getD_eq_getElem?_getD, hS]; rfl)
            have HBNE : Hid ((Value.slice a5 X.length c5).ownBlock ≠ some bx) := Lib.hid (fun hm => by have := (own_lt HJ.out.al.row hm).2; have := HS4.out; have := HF6.out.size; omega)
            clear hwb hbx hfb hS
            have HGOOD := Lib.hid (show goodR s.R F k = (((st == 1) == (k == F)) && soundV s.R st us nx (pDa d)) by unfold goodR sndR; rw [HREC.out, HST.out, HUU.out, HNX.out])
            go_cut [58] (fun vv wx => vv = .bool (!(goodR s.R F k)) ∧ Fr [] wb wx)
            case first =>
              obtain ⟨x0, x1, x2, x3⟩ := fourB HBX.out
              have hsnd := sound_F B bs wb p s (HR.out.keep (HF2.out.trans (HJ4.out.fr.trans HFB.out))) st us nx pa pc (pDa d) (by have := nm_leB1 d 0; have := HST.out; unfold pSt at this; omega) (by have := nm_leB1 d 1; have := HUU.out; unfold pUs at this; omega) (by have := HNX.out; unfold pNx at this; omega) (by have := nm_le d 2 4 (by omega); have := HNX.out; unfold pNx at this; omega) (pDa_length HD31.out) (own_cap25 HPB.out) (by
                have h := HPB.out
                rw [← pDa_length HD31.out] at h
                have h2 := Bytes.of_own h
                obtain ⟨a, cap, e, hb, -⟩ := h2
                simp only [Value.slice.injEq] at e
                obtain ⟨rfl, -, -⟩ := e
                exact hb)
              have HSND := Lib.hid hsnd
              clear hsnd
              have hA : ((st : Int) == 1) = (st == 1) := by rw [Bool.eq_iff_iff, beq_iff_eq, beq_iff_eq]; omega
              have hB : ((k : Int) == (F : Int)) = (k == F) := by rw [Bool.eq_iff_iff, beq_iff_eq, beq_iff_eq]; omega
              obtain ⟨cA, hcA⟩ : ∃ c : Bool, c = (st == 1) := ⟨_, rfl⟩
              obtain ⟨cB, hcB⟩ : ∃ c : Bool, c = (k == F) := ⟨_, rfl⟩
              obtain ⟨cS, hcS⟩ : ∃ c : Bool, c = soundV s.R st us nx (pDa d) := ⟨_, rfl⟩
              rw [← hcA] at hA
              rw [← hcB] at hB
              rw [← hcS] at HSND
              have HG2 := Lib.hid (show goodR s.R F k = ((cA == cB) && cS) by rw [HGOOD.out, hcA, hcB, hcS])
              clear hcA hcB hcS
              clear HGOOD
              cases cA <;> cases cB
              case false.true =>
                go_wp2_with fail
                go_meet
                exact ⟨by rw [HG2.out]; rfl, Fr.refl _ _⟩
              case true.false =>
                go_wp2_with fail
                go_meet
                exact ⟨by rw [HG2.out]; rfl, Fr.refl _ _⟩
              case false.false =>
                go_wp2_with fail
                refine HSND.out.mono ?_
                rintro e w7 ⟨rfl, hf7⟩
                have HF7 := Lib.hid hf7
                clear hf7
                go_wp2_with fail
                go_meet
                exact ⟨by rw [HG2.out]; rfl, HF7.out⟩
              case true.true =>
                go_wp2_with fail
                refine HSND.out.mono ?_
                rintro e w7 ⟨rfl, hf7⟩
                have HF7 := Lib.hid hf7
                clear hf7
                go_wp2_with fail
                go_meet
                exact ⟨by rw [HG2.out]; rfl, HF7.out⟩
            case rest =>
              obtain ⟨rfl, hfw⟩ := hcut
              have HFW := Lib.hid hfw
              clear hfw
              cases hg : goodR s.R F k with
              | false =>
                have HGD := Lib.hid hg
                clear hg
                go_wp2_with fail
                go_ret3
                refine ⟨.slice none 0 0, .slice none 0 0, [], ?_⟩
                rw [← HWK.out, show s.R.length + 1 - met.length = (s.R.length - met.length) + 1 by have := HML.out; omega, walkN_bad HM.out HGD.out]
                exact ⟨rfl, World.ownsRow_nil _ _ _ _, AL.nil _ _, rfl, HF2.out.trans (HJ4.out.fr.trans (HFB.out.trans HFW.out))⟩
              | true =>
                have HGD := Lib.hid hg
                clear hg
                have HJC := Lib.hid (HJ4.out.still (HFB.out.trans HFW.out))
                have HBC := Lib.hid (HFW.out.obj HBX.out (by simp))
                have HPC := Lib.hid (own_base (own_fr HPB.out HFW.out (by simp)) (B' := w2.heap.size) (by have := HJ4.out.fr.size; have := HF5.out.size; omega))
                clear HGOOD
                go_upto_region 16 with fail
                go_cut [4] (fun q wx => LJ w2 wx mb (met.length + 1) (met ++ [k]) (met ++ [k]) X q (.slice a5 X.length c5) ∧ wx.heap[bx]? = some (.cells #[.int .i64 st, .int .i64 us, .int .i64 nx, .slice pa 25 pc] 73) ∧ wx.ownsRow w2.heap.size 5 1 (.slice pa 25 pc) 25 ((pDa d).map B8))
                case first =>
                  have hfx : Fr [] wc (wc.alloc (.cells #[.int .i64 k] 3)) := (Fr.refl [] wc).alloc _
                  have HJX := Lib.hid (HJC.out.still hfx)
                  have HBY := Lib.hid (hfx.obj HBC.out (by simp))
                  have HPY := Lib.hid (own_fr HPC.out hfx (by simp))
                  have hnews : ∀ a, some (⟨wc.heap.size, 0, none⟩ : Addr) = some a → ∀ j u, [Value.int .i64 (k : Int)][j]? = some u → (wc.alloc (.cells #[.int .i64 k] 3)).cell? (a.add j) = some u := by
                    intro a ha j u hu
                    cases ha
                    rcases j with _ | j
                    · exact (cell_of_row _ wc.heap.size 0 _ _ _ (show (wc.alloc (.cells #[.int .i64 k] 3)).heap[wc.heap.size]? = some _ from heap_alloc_new wc _)).trans hu
                    · simp at hu
                  have HNEWS := Lib.hid hnews
                  have hml := HML.out
                  have hll := HOK.out.len
                  have hszc : w2.heap.size ≤ wc.heap.size := HJC.out.fr.size
                  clear hnews hfx
                  have HBW := Lib.hid (show w2.heap.size ≤ (wc.alloc (.cells #[.int .i64 k] 3)).heap.size by simp; omega)
                  go_wp2_with (at_builtin; refine wpList_appS _ rfl _ _ 30 rfl w2.heap.size 3 _ 1 8 Tryd.underlying30 infoI rfl (by decide) (.slice a4 met.length c4) met.length (met.map fun (k : Nat) => Value.int .i64 k) rfl HJX.out.i4 (some ⟨wc.heap.size, 0, none⟩) 1 1 [.int .i64 k] rfl rfl HNEWS.out (fun h => by cases h) (by simp [Value.oneCell']) (by unfold maxLen; omega) (by omega) HBW.out ?_; intro v' w' happ; have HAPP := Lib.hid happ; clear happ)
                  go_meet
                  have h1 := HJX.out.app4 HAPP.out
                  refine ⟨⟨h1.i4, h1.al, ?_, h1.fr, h1.hmb⟩, (app_frZ HAPP.out).obj HBY.out ?_, own_fr HPY.out (app_frZ HAPP.out) ?_⟩
                  · exact h1.mm
                  · intro hm
                    exact own_neT HJX.out.i4 HBY.out (by decide) (by simpa using hm)
                  · intro g hg hm
                    exact own_neR HPY.out HJX.out.i4 (by decide) hg (by simpa using hm)
                case rest =>
                  obtain ⟨hj, hb, hp⟩ := hcut
                  obtain ⟨a6, c6, rfl⟩ := own_slR hj.i4
                  have hll6 : (met ++ [k]).length = met.length + 1 := by simp
                  have HJ6 := Lib.hid hj
                  have hbx6 := hb
                  have HP6 := Lib.hid hp
                  clear hj hb hp
                  have hfx : Fr [] wc (wc.alloc (.cells #[.int .i64 st, .int .i64 us, .int .i64 nx, .slice pa 25 pc] 73)) := (Fr.refl [] wc).alloc _
                  have HJX := Lib.hid (HJ6.out.still hfx)
                  have HBY := Lib.hid (hfx.obj hbx6 (by simp))
                  have HPY := Lib.hid (own_fr HP6.out hfx (by simp))
                  have hnews : ∀ a, some (⟨wc.heap.size, 0, none⟩ : Addr) = some a → ∀ j u, [Value.int .i64 (st : Int), .int .i64 (us : Int), .int .i64 nx, .slice pa 25 pc][j]? = some u → (wc.alloc (.cells #[.int .i64 st, .int .i64 us, .int .i64 nx, .slice pa 25 pc] 73)).cell? (a.add j) = some u := by
                    intro a ha j u hu
                    cases ha
                    have hz := heap_alloc_new wc (.cells #[.int .i64 st, .int .i64 us, .int .i64 nx, .slice pa 25 pc] 73)
                    rw [addO, Nat.zero_add, cell_of_row _ wc.heap.size j _ _ _ hz]
                    simpa using hu
                  have HNEWS := Lib.hid hnews
                  have hml := HML.out
                  have hll := HOK.out.len
                  have HBW := Lib.hid (show w2.heap.size ≤ (wc.alloc (.cells #[.int .i64 st, .int .i64 us, .int .i64 nx, .slice pa 25 pc] 73)).heap.size from HJX.out.fr.size)
                  have HBX6 := Lib.hid hbx6
                  obtain ⟨x0, x1, x2, x3⟩ := fourB hbx6
                  clear hnews hfx hbx6
                  rw [hll6]
                  go_wp2_with (at_builtin; refine wpList_appS _ rfl _ _ 76 rfl w2.heap.size 73 _ 4 48 Tryd.underlying76 infoBL rfl (by decide) (.slice a5 X.length c5) X.length (biCells X) rfl HJX.out.al.row (some ⟨wc.heap.size, 0, none⟩) 1 1 [.int .i64 st, .int .i64 us, .int .i64 nx, .slice pa 25 pc] rfl rfl HNEWS.out (fun h => by cases h) (by simp [Value.oneCell']) (by unfold maxLen; have := HXL.out; omega) (by have := HXL.out; omega) HBW.out ?_; intro v' w' happ; have HAPP := Lib.hid happ; have hbo := (app_frZ happ).obj HBY.out (fun hm => HBNE.out (by simpa using hm)); obtain ⟨y0, y1, y2, y3⟩ := fourB hbo; clear happ hbo)
                  have hnxe : nxtR s.R k = nx := by unfold nxtR; rw [HREC.out, HNX.out]
                  refine ⟨⟨met ++ [k], X ++ [⟨pa, pc, d⟩], nx, rfl, ?_, ?_, ?_, ?_, ?_, ?_⟩, ?_⟩
                  · have h := LJ.app5 (y := ⟨pa, pc, d⟩) HJX.out HPY.out (by
                      have e : biC ⟨pa, pc, d⟩ = [.int .i64 st, .int .i64 us, .int .i64 nx, .slice pa 25 pc] := by rw [HST.out, HUU.out, HNX.out]; rfl
                      rw [e]
                      exact HAPP.out)
                    rw [hll6] at h
                    rw [hll6]
                    exact h
                  · rw [List.map_append, List.map_append, HX.out]
                    show _ ++ [d] = _ ++ [recAt s.R k]
                    rw [HREC.out]
                  · rw [List.nodup_append]
                    refine ⟨HND.out, by simp, fun i hi j hj e => ?_⟩
                    rw [List.mem_singleton.1 hj] at e
                    exact HM.out (e ▸ hi)
                  · intro i hi
                    rcases List.mem_append.1 hi with hi | hi
                    · exact HMU.out i hi
                    · rw [List.mem_singleton.1 hi]; exact HUS.out
                  · rw [← hnxe]
                    exact sndR_next (goodR_snd HGD.out)
                  · rw [hll6, ← HWK.out, show s.R.length + 1 - met.length = (s.R.length - met.length) + 1 by omega, walkN_on HM.out HGD.out, show s.R.length + 1 - (met.length + 1) = s.R.length - met.length by omega, hnxe]
                  · simp [lenV]
                    omega
  · have h32i : ((s.sz : Int) != 32) = true := by rw [bne_iff_ne]; omega
    have HW : Hid (walkE s first = ([], 4)) := Lib.hid (by unfold walkE; rw [if_pos h32])
    go_enter Tryd.func36, Tryd.ntmps36
    go_wp2_with fail
    refine HSZ.out.mono ?_
    rintro e w' ⟨rfl, rfl⟩
    go_wp2
    go_ret3
    refine ⟨.slice none 0 0, .slice none 0 0, [], ?_⟩
    rw [HW.out]
    exact ⟨rfl, World.ownsRow_nil _ _ _ _, AL.nil _ _, rfl, Fr.refl _ _⟩
end Go.Proofs.YtkcipbjikimlfaaDoor

/- Blocks: Walk, Load, Drop. -/
namespace Go.Proofs.YtkcipbjikimlfaaDoor
open Go.RowKit Go.Maps
attribute [local go_sem ↓] Go.wp_at_zero Go.wp_at_succ
theorem walkN_good (R : Recs) (first : Nat) : ∀ (k : Nat) (met : List Nat) (id : Int), (∀ i ∈ met, goodR R first i = true) → ∀ i ∈ (walkN R first k met id).1, goodR R first i = true
  | 0, met, id, h => by
    intro i hi
    rw [walkN] at hi
    split at hi
    · exact h i hi
    · exact absurd hi (by simp)
  | k + 1, met, id, h => by
    intro i hi
    rw [walkN] at hi
    split at hi
    · exact h i hi
    · split at hi
      · exact absurd hi (by simp)
      · split at hi
        · rename_i hg
          exact walkN_good R first k _ _ (fun j hj => by
            rcases List.mem_append.1 hj with hj | hj
            · exact h j hj
            · rw [List.mem_singleton.1 hj]; exact hg) i hi
        · exact absurd hi (by simp)
theorem walkE_snd {s : RFS} {first : Int} : ∀ i ∈ (walkE s first).1, sndR s.R i = true := by
  intro i hi
  unfold walkE walkS at hi
  split at hi
  · exact absurd hi (by simp)
  · split at hi
    · exact goodR_snd (walkN_good s.R _ _ [] _ (fun j hj => absurd hj (by simp)) i hi)
    · exact absurd hi (by simp)
theorem sndR_used {R : Recs} {i : Nat} (h : sndR R i = true) : pUs (recAt R i) ≤ 25 := by
  unfold sndR soundV at h
  simp only [Bool.and_eq_true, decide_eq_true_eq] at h
  exact h.2.1
/-- the bytes that a block holds -/
def pieceR (R : Recs) (i : Nat) : List UInt8 := (pDa (recAt R i)).take (pUs (recAt R i))
theorem pieceR_le (R : Recs) (i : Nat) : (pieceR R i).length ≤ 25 := by
  unfold pieceR pDa
  rw [List.length_take, List.length_take]
  omega
def loadE (s : RFS) (first : Int) : List UInt8 := (walkE s first).1.flatMap (pieceR s.R)
def dropS (s : RFS) (L : List Nat) : RFS := L.foldl (fun s i => freS s (i : Nat)) s
theorem dropS_snoc (s : RFS) (L : List Nat) (i : Nat) : dropS s (L ++ [i]) = freS (dropS s L) (i : Nat) := by unfold dropS; rw [List.foldl_append]; rfl
theorem take_snocD {L : List Nat} {i : Nat} (h : i < L.length) : L.take (i + 1) = L.take i ++ [L.getD i 0] := by
  rw [List.take_add_one, List.getD_eq_getElem?_getD, List.getElem?_eq_getElem h]
  rfl
theorem walkN_len (R : Recs) (first : Nat) : ∀ (k : Nat) (met : List Nat) (id : Int), (walkN R first k met id).1.length ≤ met.length + k
  | 0, met, id => by
    rw [walkN]
    split <;> simp
  | k + 1, met, id => by
    rw [walkN]
    split
    · show met.length ≤ _; omega
    · split
      · simp
      · split
        · have := walkN_len R first k (met ++ [id.toNat]) (nxtR R id.toNat)
          simp at this
          omega
        · simp
theorem walkE_len {B : Nat} {bs : List Nat} {w : World} {p : Nat} {s : RFS} {first : Int} (h : RF B bs w p s) : (walkE s first).1.length ≤ 70000 := by
  have hl := h.ok.len
  unfold walkE walkS
  split
  · simp
  · split
    · have := walkN_len s.R first.toNat (s.R.length + 1) [] first
      simp at this
      omega
    · simp
set_option maxRecDepth 100000 in
theorem Walk_F (B : Nat) (bs : List Nat) (w : World) (p : Nat) (s : RFS) (first : Int) (h : RF B bs w p s) :
    Calls Tryd.prog 12 #[.pointer (some ⟨p, 0, none⟩), .int .i64 first] w fun e w' => ∃ v, e = .returned (.tuple #[v, .int .i64 (walkE s first).2]) ∧ w'.ownsRow w.heap.size 3 1 v (walkE s first).1.length ((walkE s first).1.map fun (k : Nat) => Value.int .i64 k) ∧ Fr [] w w' := by
  have HA := Lib.hid (along_F B bs w p s first h)
  clear h
  go_enter Tryd.func12, Tryd.ntmps12
  go_wp2_with fail
  refine HA.out.mono ?_
  rintro e w1 ⟨v4, v5, X, rfl, h4, h5, hx, hf⟩
  have H4 := Lib.hid h4
  have HF := Lib.hid hf
  clear h4 h5 hx hf
  go_wp2
  go_ret2
  exact ⟨v4, rfl, H4.out, HF.out⟩
theorem own_intC {w : World} {B n k : Nat} {v : Value} {L : List Nat} (h : w.ownsRow B 3 1 v n (L.map fun (k : Nat) => Value.int .i64 k)) (hk : k < L.length) : ∃ g c, v = .slice (some ⟨g, 0, none⟩) n c ∧ B ≤ g ∧ g < w.heap.size ∧ w.cell? ⟨g, k, none⟩ = some (.int .i64 (L.getD k 0 : Nat)) := by
  have hn : n = L.length := by have := h.1; simpa using this.symm
  rcases h.2 with ⟨rfl, h0⟩ | ⟨g, cap, cur, rfl, hb, hh, _⟩
  · omega
  · refine ⟨g, cap, rfl, hb, (Array.getElem?_eq_some_iff.1 hh).1, ?_⟩
    have hc := h.cells (g := g) rfl k (.int .i64 (L.getD k 0 : Nat)) (by simp [List.getD, hk])
    rw [addO, Nat.zero_add] at hc
    exact hc
set_option maxRecDepth 100000 in
set_option maxHeartbeats 1600000 in
theorem Drop_F (B : Nat) (bs : List Nat) (w : World) (p : Nat) (s : RFS) (first : Int) (h : RF B bs w p s) :
    Calls Tryd.prog 19 #[.pointer (some ⟨p, 0, none⟩), .int .i64 first] w fun e w' => e = .returned (.int .i64 (walkE s first).2) ∧ ∃ bs', RF B bs' w' p (dropS s (walkE s first).1) ∧ Stp bs w bs' w' := by
  have HA := Lib.hid (along_F B bs w p s first h)
  have HR := Lib.hid h
  obtain ⟨L, hL⟩ : ∃ L, L = (walkE s first).1 := ⟨_, rfl⟩
  obtain ⟨E, hE⟩ : ∃ E, E = (walkE s first).2 := ⟨_, rfl⟩
  rw [← hL, ← hE]
  unfold AlP at HA
  rw [← hL, ← hE] at HA
  have HLE := Lib.hid (show L.length ≤ 70000 by rw [hL]; exact walkE_len h)
  clear h hL hE
  go_enter Tryd.func19, Tryd.ntmps19
  go_wp2_with fail
  refine HA.out.mono ?_
  rintro e w1 ⟨v4, v5, X, rfl, h4, h5, hx, hf⟩
  obtain ⟨a4, c4, rfl⟩ := own_slR h4
  have H4 := Lib.hid h4
  have HF := Lib.hid hf
  have hl7 := HLE.out
  clear h4 h5 hx hf
  go_wp2
  go_loopw [19] (fun q wr => ∃ (i : Nat) (bs' : List Nat), i ≤ L.length ∧ q = .int .i64 i ∧ RF B bs' wr p (dropS s (L.take i)) ∧ Stp bs w1 bs' wr) (fun q _ => L.length - (intOf q).toNat)
  case atStart => exact ⟨0, bs, by omega, rfl, HR.out.keep HF.out, Stp.refl _ _⟩
  case round =>
    obtain ⟨i, bs1, hi, rfl, hr, hst⟩ := hrel
    have HT := Lib.hid hr
    have HST := Lib.hid hst
    clear hr hst
    by_cases hlt : i < L.length
    · have hii : (i : Int) < (L.length : Int) := by omega
      have hi0 : (0 : Int) ≤ (i : Int) := by omega
      obtain ⟨g, c, e, hg1, hg2, -⟩ := own_intC H4.out hlt
      simp only [Value.slice.injEq] at e
      obtain ⟨rfl, -, -⟩ := e
      have hgb : g ∉ bs := fun hm => by have := (HR.out.lt _ hm).2; omega
      have H4R := Lib.hid (own_fr H4.out HST.out.1 (fun g' hg' hm => by
        have hgg : g = g' := by simpa [Value.ownBlock] using hg'
        subst hgg
        exact hgb hm))
      obtain ⟨g', c', e', -, -, hc⟩ := own_intC H4R.out hlt
      simp only [Value.slice.injEq, Option.some.injEq, Addr.mk.injEq] at e'
      obtain ⟨⟨rfl, -⟩, -, -⟩ := e'
      obtain ⟨x, hx⟩ : ∃ x, x = L.getD i 0 := ⟨_, rfl⟩
      rw [← hx] at hc
      have HFR := Lib.hid (Free_F B bs1 wr p _ (x : Int) HT.out)
      have HGB := Lib.hid hgb
      have HXX := Lib.hid hx
      clear hg1 hg2 hgb hx
      have e1 : IntKind.i64.wrap ((i : Int) + 1) = (i : Int) + 1 := IntWalk.i64_in _ (by omega)
      go_wp2_with fail
      refine HFR.out.mono ?_
      rintro e w2 ⟨rfl, bs2, h2, s2⟩
      have HR2 := Lib.hid h2
      have HS2 := Lib.hid s2
      clear h2 s2
      go_wp2
      go_roundw
      case rel =>
        refine ⟨i + 1, bs2, by omega, by go_num, ?_, HST.out.trans HS2.out⟩
        rw [take_snocD hlt, dropS_snoc, ← HXX.out]
        exact HR2.out
      case measure => simp [intOf] <;> omega
    · obtain rfl : i = L.length := by omega
      have hii : ¬ (L.length : Int) < (L.length : Int) := by omega
      go_wp2
      go_ret
      refine ⟨rfl, bs1, ?_, Stp.keepL HF.out HST.out⟩
      have := HT.out
      rw [List.take_length] at this
      exact this
end Go.Proofs.YtkcipbjikimlfaaDoor

/- Blocks: Load. -/
namespace Go.Proofs.YtkcipbjikimlfaaDoor
open Go.RowKit Go.Maps
attribute [local go_sem ↓] Go.wp_at_zero Go.wp_at_succ
theorem AL.cell {w : World} {B n k : Nat} {v : Value} {X : List BI} (h : AL w B v X) (hk : k < X.length) (hn : n = X.length) : ∃ g c, v = .slice (some ⟨g, 0, none⟩) n c ∧
    w.cell? ⟨g, k * 4, none⟩ = some (.int .i64 (pSt X[k].d)) ∧ w.cell? ⟨g, k * 4 + 1, none⟩ = some (.int .i64 (pUs X[k].d)) ∧ w.cell? ⟨g, k * 4 + 2, none⟩ = some (.int .i64 (pNx X[k].d)) ∧ w.cell? ⟨g, k * 4 + 3, none⟩ = some X[k].v := by
  subst hn
  rcases h.row.2 with ⟨rfl, h0⟩ | ⟨g, cap, cur, rfl, hb, hh, _⟩
  · omega
  · have hc := h.row.cells (g := g) rfl
    refine ⟨g, cap, rfl, ?_, ?_, ?_, ?_⟩
    · have := hc (k * 4) _ (biCells_get X k hk 0 (by omega)); rw [addO, Nat.zero_add] at this; exact this
    · have := hc (k * 4 + 1) _ (biCells_get X k hk 1 (by omega)); rw [addO, Nat.zero_add] at this; exact this
    · have := hc (k * 4 + 2) _ (biCells_get X k hk 2 (by omega)); rw [addO, Nat.zero_add] at this; exact this
    · have := hc (k * 4 + 3) _ (biCells_get X k hk 3 (by omega)); rw [addO, Nat.zero_add] at this; exact this
theorem pieces_le (R : Recs) : ∀ (L : List Nat), (L.flatMap (pieceR R)).length ≤ 25 * L.length
  | [] => by simp
  | i :: L => by
    have h1 := pieces_le R L
    have h2 := pieceR_le R i
    rw [List.flatMap_cons, List.length_append, List.length_cons]
    omega
set_option maxRecDepth 100000 in
set_option maxHeartbeats 3200000 in
theorem Load_F (B : Nat) (bs : List Nat) (w : World) (p : Nat) (s : RFS) (first : Int) (h : RF B bs w p s) :
    Calls Tryd.prog 17 #[.pointer (some ⟨p, 0, none⟩), .int .i64 first] w fun e w' => ∃ v, e = .returned (.tuple #[v, .int .i64 (walkE s first).2]) ∧ Got w.heap.size w w' v (loadE s first) := by
  have HA := Lib.hid (along_F B bs w p s first h)
  have HOK := Lib.hid h.ok
  have HSN := Lib.hid (walkE_snd (s := s) (first := first))
  have HLE := Lib.hid (walkE_len (first := first) h)
  unfold loadE
  unfold AlP at HA
  obtain ⟨L, hL⟩ : ∃ L, L = (walkE s first).1 := ⟨_, rfl⟩
  obtain ⟨E, hE⟩ : ∃ E, E = (walkE s first).2 := ⟨_, rfl⟩
  rw [← hL] at HSN HLE
  rw [← hL, ← hE]
  rw [← hL, ← hE] at HA
  clear h hL hE
  go_enter Tryd.func17, Tryd.ntmps17
  go_wp2_with fail
  refine HA.out.mono ?_
  rintro e w1 ⟨v4, v5, X, rfl, h4, h5, hx, hf⟩
  obtain ⟨a5, c5, rfl⟩ := own_slR h5.row
  have hxl : X.length = L.length := by have := congrArg List.length hx; simpa using this
  have HXL := Lib.hid hxl
  have H5 := Lib.hid h5
  have HX := Lib.hid hx
  have HF := Lib.hid hf
  have hl7 := HLE.out
  clear h4 h5 hx hf hxl
  go_wp2
  go_loopw [9, 21] (fun q9 q wr => ∃ (i : Nat), i ≤ X.length ∧ q = .int .i64 i ∧ wr.ownsRow w1.heap.size 5 1 q9 ((L.take i).flatMap (pieceR s.R)).length (((L.take i).flatMap (pieceR s.R)).map B8) ∧ Fr [] w1 wr) (fun _ q _ => X.length - (intOf q).toNat)
  case atStart => exact ⟨0, by omega, rfl, World.ownsRow_nil _ _ _ _, Fr.refl _ _⟩
  case round =>
    obtain ⟨i, hi, rfl, ho, hf⟩ := hrel
    obtain ⟨acc, hacc⟩ : ∃ acc, acc = (L.take i).flatMap (pieceR s.R) := ⟨_, rfl⟩
    rw [← hacc] at ho
    have hal : acc.length ≤ 25 * 70000 := by
      have h1 := pieces_le s.R (L.take i)
      have h2 : (L.take i).length ≤ L.length := by rw [List.length_take]; omega
      rw [hacc]; omega
    obtain ⟨a9, c9, rfl⟩ := own_slR ho
    have HACC := Lib.hid hacc
    have HO := Lib.hid ho
    have HF2 := Lib.hid hf
    have HAL := Lib.hid hal
    clear ho hf hacc hal
    have hxlb : X.length ≤ 70000 := by rw [HXL.out]; exact hl7
    by_cases hlt : i < X.length
    · have hii : (i : Int) < (X.length : Int) := by omega
      have hi0 : (0 : Int) ≤ (i : Int) := by omega
      have e1 : IntKind.i64.wrap ((i : Int) + 1) = (i : Int) + 1 := IntWalk.i64_in _ (by omega)
      have hiL : i < L.length := by rw [← HXL.out]; exact hlt
      obtain ⟨k, hk⟩ : ∃ k, k = L.getD i 0 := ⟨_, rfl⟩
      obtain ⟨y, hy⟩ : ∃ y, y = X[i] := ⟨_, rfl⟩
      have hym : y ∈ X := by rw [hy]; exact List.getElem_mem hlt
      have hrk : y.d = recAt s.R k := by
        have h1 : (X.map BI.d)[i]? = (L.map (recAt s.R))[i]? := by rw [HX.out]
        rw [List.getElem?_map, List.getElem?_map, List.getElem?_eq_getElem hlt, List.getElem?_eq_getElem hiL] at h1
        have h2 := Option.some.inj h1
        rw [hy, h2, hk, List.getD_eq_getElem?_getD, List.getElem?_eq_getElem hiL]
        rfl
      have hus : pUs y.d ≤ 25 := by
        rw [hrk]
        exact sndR_used (HSN.out k (by rw [hk, List.getD_eq_getElem?_getD, List.getElem?_eq_getElem hiL]; exact List.getElem_mem hiL))
      have h5r := H5.out.keep HF2.out
      obtain ⟨g, c, e, x0, x1, x2, x3⟩ := h5r.cell hlt rfl
      simp only [Value.slice.injEq] at e
      obtain ⟨rfl, -, -⟩ := e
      rw [← hy] at x0 x1 x2 x3
      have hda := h5r.dat y hym
      obtain ⟨ya, yc, yd⟩ := y
      have hdl := hda.1
      have hyc : 25 ≤ yc := own_cap25 hda
      have hpl : (pDa yd).length = 25 := by simpa using hdl
      have hby := Bytes.of_own (l := pDa yd) (by rw [hpl]; exact hda)
      obtain ⟨ya', yc', ee, hyb, -, -, -, hyo⟩ := hby
      simp only [BI.v, Value.slice.injEq] at ee
      obtain ⟨rfl, -, rfl⟩ := ee
      obtain ⟨gy, oy, rfl, -⟩ := hyb.at (by omega)
      obtain ⟨us, hus2⟩ : ∃ us, us = pUs yd := ⟨_, rfl⟩
      have hus3 : us ≤ 25 := by rw [hus2]; exact hus
      simp only [BI.v] at x0 x1 x2 x3
      rw [← hus2] at x1
      generalize pSt yd = st at x0
      generalize pNx yd = nx at x2
      have HPC := Lib.hid (show pieceR s.R k = (pDa yd).take us by unfold pieceR; rw [← hrk, hus2])
      have HYB := Lib.hid (show Bytes wr (some ⟨gy, oy, none⟩) ((pDa yd).take us) by
        have h := hyb.sub 0 us (by omega)
        simpa using h)
      have HPL := Lib.hid (show ((pDa yd).take us).length = us by rw [List.length_take]; omega)
      have HK := Lib.hid hk
      clear hus2 hrk hus h5r hda hdl hyb hyo hk hpl hym hy
      have hc0 : ¬ yc = 0 := by omega
      have hu0 : (0 : Int) ≤ (us : Int) := by omega
      have hu1 : (us : Int) ≤ (yc : Int) := by omega
      have hfx : Fr [] wr (wr.alloc (.cells #[.int .i64 st, .int .i64 us, .int .i64 nx, .slice (some ⟨gy, oy, none⟩) 25 yc] 73)) := (Fr.refl [] wr).alloc _
      have HOW := Lib.hid (own_fr HO.out hfx (by simp))
      have HYW := Lib.hid (HYB.out.keep hfx)
      have HFW := Lib.hid (HF2.out.trans hfx)
      have HBW := Lib.hid (HF2.out.trans hfx).size
      have hal := HAL.out
      clear hfx
      go_wp2_with (at_builtin; refine wpList_appB _ rfl _ _ 22 rfl w1.heap.size 5 Tryd.underlying22 info8 (.slice a9 acc.length c9) acc rfl HOW.out (some ⟨gy, oy, none⟩) us yc ((pDa yd).take us) rfl HPL.out HYW.out (fun h => by cases h) (by omega) HBW.out ?_; intro v' w' ho hgr hnil; have HO2 := Lib.hid ho; have HG2 := Lib.hid hgr; clear ho hgr hnil)
      go_roundw
      case rel =>
        refine ⟨i + 1, by omega, by go_num, ?_, HFW.out.next (Fr.of_grown HG2.out ((Value.slice a9 acc.length c9).ownBlock.toList) (fun k hk _ => by simp [hk])) (fun j hj hlt2 => by have := (own_lt HOW.out (g := j) (by simpa using hj)).1; omega)⟩
        rw [take_snocD hiL, List.flatMap_append, ← HACC.out, ← HK.out]
        have e : [k].flatMap (pieceR s.R) = (pDa yd).take us := by rw [List.flatMap_cons, HPC.out]; simp
        rw [e]
        exact HO2.out
      case measure => simp [intOf] <;> omega
    · obtain rfl : i = X.length := by omega
      have hii : ¬ (X.length : Int) < (X.length : Int) := by omega
      go_wp2
      go_ret2
      have he : acc = L.flatMap (pieceR s.R) := by rw [HACC.out, HXL.out, List.take_length]
      rw [← he]
      exact ⟨.slice a9 acc.length c9, rfl, own_base HO.out HF.out.size, HF.out.trans HF2.out⟩
end Go.Proofs.YtkcipbjikimlfaaDoor
