/- Blocks: along: the walk. -/
import Derived.Test.YtkcipbjikimlfaaBkD
namespace Go.Proofs.Ytkcipbjikimlfaa
open Go.RowKit Go.Maps
attribute [local go_sem ↓] Go.wp_at_zero Go.wp_at_succ
theorem nm_leB1 (l : List UInt8) (q : Nat) : nm l q 1 ≤ 255 := by
  have h1 := be_lt ((l.drop q).take 1)
  have h2 : 256 ^ ((l.drop q).take 1).length ≤ 256 ^ 1 := Nat.pow_le_pow_right (by omega) (by rw [List.length_take]; omega)
  rw [nm_def]
  omega
theorem own_cap25 {w : World} {B e c : Nat} {a : Option Addr} {xs : List Value} (h : w.ownsRow B e 1 (.slice a 25 c) 25 xs) : 25 ≤ c := by
  rcases h.2 with ⟨e1, _⟩ | ⟨g, cap, cur, e1, _, _, hn, _⟩
  · cases e1
  · simp only [Value.slice.injEq] at e1
    omega
theorem own_neT {w : World} {B e size n g T : Nat} {v : Value} {xs : List Value} {cs : Array Value} (h : w.ownsRow B e size v n xs) (hh : w.heap[g]? = some (.cells cs T)) (he : e ≠ T) : v.ownBlock ≠ some g := by
  intro hg
  rcases h.2 with ⟨rfl, _⟩ | ⟨g', cap, cur, rfl, _, h2, _⟩
  · cases hg
  · simp only [Value.ownBlock, Option.some.injEq] at hg
    subst hg
    rw [hh] at h2
    have := Option.some.inj h2
    simp only [Obj.cells.injEq] at this
    exact he this.2.1.symm
theorem infoBL : (Try.prog.info? 42).map (fun i => (i.zero, i.size, i.bytes)) = some (some (.agg #[.int .i64 0, .int .i64 0, .int .i64 0, .slice none 0 0]), 4, 48) := by kernel_rfl
def lenV : Value → Nat | .slice _ n _ => n | _ => 0
def AlP (R : Recs) (w w' : World) (e : Ending) (r : List Nat × Int) : Prop := ∃ v4 v5 X, e = .returned (.tuple #[v4, v5, .int .i64 r.2]) ∧
      w'.ownsRow w.heap.size 3 1 v4 r.1.length (r.1.map fun (k : Nat) => Value.int .i64 k) ∧ AL w' w.heap.size v5 X ∧ X.map BI.d = r.1.map (recAt R) ∧ Fr [] w w'
set_option maxRecDepth 100000 in
set_option maxHeartbeats 6400000 in
theorem along_F (B : Nat) (bs : List Nat) (w : World) (p : Nat) (s : RFS) (first : Int) (h : RF B bs w p s) :
    Calls Try.prog 17 #[.pointer (some ⟨p, 0, none⟩), .int .i64 first] w fun e w' => AlP s.R w w' e (walkE s first) := by
  have hmm := @run_makeMap Try.prog
  have hok := h.ok
  have HR := Lib.hid h
  have HOK := Lib.hid hok
  have HSZ := Lib.hid (Size_F B bs w p s h)
  have HG := Lib.hid (Get_F B bs w p s first h)
  clear h hok
  by_cases h32 : s.sz = 32
  · rw [h32] at HSZ
    cases hu : usedR s.R first with
    | false =>
      have HW : Hid (walkE s first = ([], 3)) := Lib.hid (by unfold walkE walkS; rw [if_neg (by omega), hu]; rfl)
      rw [hu] at HG
      go_enter Try.func17, Try.ntmps17
      go_wp2_with fail
      refine HSZ.out.mono ?_
      rintro e w' ⟨rfl, rfl⟩
      go_wp2_with fail
      refine HG.out.mono ?_
      rintro e w2 ⟨v, rfl, hg⟩
      have HF2 := Lib.hid hg.2
      clear hg
      go_wp2
      go_ret3
      refine ⟨.slice none 0 0, .slice none 0 0, [], ?_⟩
      rw [HW.out]
      exact ⟨rfl, World.ownsRow_nil _ _ _ _, AL.nil _ _, rfl, HF2.out⟩
    | true =>
      obtain ⟨h0, h1, -⟩ := usedR_lt hu
      obtain ⟨F, rfl⟩ : ∃ F : Nat, first = F := ⟨first.toNat, by omega⟩
      have HU := Lib.hid hu
      rw [hu] at HG
      have HW : Hid (walkE s F = walkN s.R F (s.R.length + 1) [] F) := Lib.hid (by unfold walkE walkS; rw [if_neg (by omega), hu]; simp)
      rw [HW.out]
      clear hu
      go_enter Try.func17, Try.ntmps17
      go_wp2_with fail
      refine HSZ.out.mono ?_
      rintro e w' ⟨rfl, rfl⟩
      go_wp2_with fail
      refine HG.out.mono ?_
      rintro e w2 ⟨v, rfl, hg⟩
      have HF2 := Lib.hid hg.2
      clear hg
      go_wp2
      obtain ⟨w3, hw3⟩ : ∃ w3, w3 = w2.alloc (.map #[] 0) := ⟨_, rfl⟩
      rw [← hw3]
      obtain ⟨mb, hmb⟩ : ∃ mb, mb = w2.heap.size := ⟨_, rfl⟩
      rw [← hmb]
      have HF3 := Lib.hid (show Fr [] w2 w3 by rw [hw3]; exact (Fr.refl _ _).alloc _)
      have HMM := Lib.hid (show MetM w3 mb 0 [] by rw [hw3, hmb]; exact MetM.made _)
      have HMB := Lib.hid (show w2.heap.size ≤ mb by omega)
      clear hw3 hmb hmm
      go_loopw [4, 5, 10] (fun q4 q5 q10 wr => ∃ (met : List Nat) (X : List BI) (id : Int), q10 = .int .i64 id ∧ LJ w2 wr mb met.length met met X q4 q5 ∧ X.map BI.d = met.map (recAt s.R) ∧ met.Nodup ∧ (∀ i ∈ met, usedR s.R (i : Nat) = true) ∧ (id = -1 ∨ usedR s.R id = true) ∧ walkN s.R F (s.R.length + 1 - met.length) met id = walkN s.R F (s.R.length + 1) [] F) (fun q4 _ _ _ => s.R.length + 1 - lenV q4)
      case atStart =>
        exact ⟨[], [], F, rfl, ⟨World.ownsRow_nil _ _ _ _, AL.nil _ _, HMM.out, HF3.out, HMB.out⟩, rfl, List.nodup_nil, fun i hi => absurd hi (by simp), .inr HU.out, rfl⟩
      case round =>
        obtain ⟨met, X, id, rfl, hj, hx, hnd, hmu, hid, hwk⟩ := hrel
        obtain ⟨a4, c4, rfl⟩ := own_slR hj.i4
        obtain ⟨a5, c5, rfl⟩ := own_slR hj.al.row
        have HXL := Lib.hid (show X.length = met.length by have := congrArg List.length hx; simpa using this)
        have HJ := Lib.hid hj
        have HX := Lib.hid hx
        have HND := Lib.hid hnd
        have HMU := Lib.hid hmu
        have HWK := Lib.hid hwk
        have HML := Lib.hid (show met.length ≤ s.R.length from nodup_le _ hnd fun i hi => by
          have := (usedR_lt (hmu i hi)).2.1
          omega)
        clear hj hx hnd hmu hwk
        by_cases hn : id = -1
        · subst hn
          go_wp2_with fail
          go_ret3
          refine ⟨.slice a4 met.length c4, .slice a5 X.length c5, X, ?_⟩
          rw [← HWK.out, walkN_end]
          exact ⟨rfl, own_base HJ.out.i4 HF2.out.size, ⟨own_base HJ.out.al.row HF2.out.size, fun x hx => own_base (HJ.out.al.dat x hx) HF2.out.size⟩, HX.out, HF2.out.trans HJ.out.fr⟩
        · have hus : usedR s.R id = true := hid.resolve_left hn
          obtain ⟨h0, h1, hd⟩ := usedR_lt hus
          obtain ⟨k, rfl⟩ : ∃ k : Nat, id = k := ⟨id.toNat, by omega⟩
          have hk65 : k < 65536 := by have := HOK.out.len; omega
          obtain ⟨d, hd⟩ := hd
          rw [Int.toNat_natCast] at hd
          have HD := Lib.hid hd
          have HUS := Lib.hid hus
          have hni : ((k : Int) != -1) = true := by rw [bne_iff_ne]; omega
          have hk0 : (0 : Int) ≤ (k : Int) := by omega
          clear hd hid hus hn h0 h1
          have hlk := HJ.out.mm.look k (by omega)
          by_cases hm : k ∈ met
          · rw [if_pos hm] at hlk
            obtain ⟨w4, hup, hf4, hl4, -⟩ := HJ.out.mm.up k (by omega) (by have := HML.out; have := HOK.out.len; omega) 2 (by omega)
            replace hup : (Instr.mapUpdate 60 (.map (some mb)) (.int .i64 (k : Int)) (.int .i64 2)).run Try.prog wr = .ok () w4 := hup
            replace hl4 : (Instr.lookup 60 (.map (some mb)) (.int .i64 (k : Int)) false).run Try.prog w4 = .ok (.int .i64 2) w4 := hl4
            have HF4 := Lib.hid hf4
            have e1 : IntKind.i64.wrap ((1 : Int) + 1) = 2 := by decide
            have HM := Lib.hid hm
            clear hf4 hm
            go_wp2_with fail
            go_ret3
            refine ⟨.slice none 0 0, .slice none 0 0, [], ?_⟩
            rw [← HWK.out, walkN_met HM.out]
            exact ⟨rfl, World.ownsRow_nil _ _ _ _, AL.nil _ _, rfl, HF2.out.trans (HJ.out.fr.next HF4.out (fun i hi hlt => by simp at hi; have := HJ.out.hmb; omega))⟩
          · rw [if_neg hm] at hlk
            obtain ⟨w4, hup, hf4, hl4, hm4⟩ := HJ.out.mm.up k (by omega) (by have := HML.out; have := HOK.out.len; omega) 1 (by omega)
            replace hup : (Instr.mapUpdate 60 (.map (some mb)) (.int .i64 (k : Int)) (.int .i64 1)).run Try.prog wr = .ok () w4 := hup
            replace hl4 : (Instr.lookup 60 (.map (some mb)) (.int .i64 (k : Int)) false).run Try.prog w4 = .ok (.int .i64 1) w4 := hl4
            have HJ4 := Lib.hid (HJ.out.map hf4 (hm4 rfl))
            have HS4 := Lib.hid hf4.size
            have e1 : IntKind.i64.wrap ((0 : Int) + 1) = 1 := by decide
            have HM := Lib.hid hm
            clear hf4 hm4 hm
            go_wp2_with fail
            have hG2 := Get_F B bs w4 p s (k : Int) (HR.out.keep (HF2.out.trans HJ4.out.fr))
            rw [HUS.out] at hG2
            refine hG2.mono ?_
            clear hG2
            rintro e w5 ⟨gv, rfl, hg⟩
            rw [(getRd_some HD.out).2] at hg
            have hd31 : d.length = 31 := by have := HOK.out.dat d (List.mem_of_getElem? HD.out); omega
            have HD31 := Lib.hid hd31
            have hd2 := hg.2
            obtain ⟨ag, cg, rfl, hgb, -⟩ := hg.bytes
            have HGB := Lib.hid hgb
            have HF5 := Lib.hid hd2
            clear hg hgb hd2 hlk hup hl4 e1 hd31
            go_wp2_with fail
            refine (parse_F ag cg d w5 HD31.out HGB.out).mono ?_
            rintro e w6 ⟨pv, rfl, hpo, hpf⟩
            obtain ⟨pa, pc, hpv⟩ := own_slR hpo
            subst hpv
            obtain ⟨st, hst⟩ : ∃ st, st = pSt d := ⟨_, rfl⟩
            obtain ⟨us, hus⟩ : ∃ us, us = pUs d := ⟨_, rfl⟩
            obtain ⟨nx, hnx⟩ : ∃ nx, nx = pNx d := ⟨_, rfl⟩
            rw [← hst, ← hus, ← hnx]
            have HST := Lib.hid hst
            have HUU := Lib.hid hus
            have HNX := Lib.hid hnx
            have HPO := Lib.hid hpo
            have HF6 := Lib.hid (HF5.out.trans hpf)
            clear hst hus hnx hpo hpf
            go_upto_region 14 with fail
            obtain ⟨wb, hwb⟩ : ∃ wb, wb = w6.alloc (.cells #[.int .i64 st, .int .i64 us, .int .i64 nx, .slice pa 25 pc] 42) := ⟨_, rfl⟩
            rw [← hwb]
            obtain ⟨bx, hbx⟩ : ∃ bx, bx = w6.heap.size := ⟨_, rfl⟩
            rw [← hbx]
            have HBX := Lib.hid (show wb.heap[bx]? = some (.cells #[.int .i64 st, .int .i64 us, .int .i64 nx, .slice pa 25 pc] 42) by rw [hwb, hbx]; exact heap_alloc_new w6 _)
            have hfb : Fr [] w6 wb := by rw [hwb]; exact (Fr.refl _ _).alloc _
            have HFB := Lib.hid (HF6.out.trans hfb)
            have HPB := Lib.hid (own_fr HPO.out hfb (by simp))
            have HBXW := Lib.hid (show w6.heap.size ≤ bx by omega)
            have hS : s.R[k]? = some (some d) := HD.out
            have HREC := Lib.hid (show recAt s.R k = d by unfold recAt; rw [List.getD_eq_getElem?_getD, hS]; rfl)
            have HBNE : Hid ((Value.slice a5 X.length c5).ownBlock ≠ some bx) := Lib.hid (fun hm => by have := (own_lt HJ.out.al.row hm).2; have := HS4.out; have := HF6.out.size; omega)
            clear hwb hbx hfb hS
            have HGOOD := Lib.hid (show goodR s.R F k = (((st == 1) == (k == F)) && soundV s.R st us nx (pDa d)) by unfold goodR sndR; rw [HREC.out, HST.out, HUU.out, HNX.out])
            go_cut [58] (fun vv wx => vv = .bool (!(goodR s.R F k)) ∧ Fr [] wb wx)
            case first =>
              obtain ⟨x0, x1, x2, x3⟩ := fourB HBX.out
              have hsnd := sound_F B bs wb p s (HR.out.keep (HF2.out.trans (HJ4.out.fr.trans HFB.out))) st us nx pa pc (pDa d) (by have := nm_leB1 d 0; have := HST.out; unfold pSt at this; omega) (by have := nm_leB1 d 1; have := HUU.out; unfold pUs at this; omega) (by have := HNX.out; unfold pNx at this; omega) (by have := nm_le d 2 4 (by omega); have := HNX.out; unfold pNx at this; omega) (pDa_length HD31.out) (own_cap25 HPB.out) (by
                have h := HPB.out
                rw [← pDa_length HD31.out] at h
                have h2 := Bytes.of_own h
                obtain ⟨a, cap, e, hb, -⟩ := h2
                simp only [Value.slice.injEq] at e
                obtain ⟨rfl, -, -⟩ := e
                exact hb)
              have HSND := Lib.hid hsnd
              clear hsnd
              have hA : ((st : Int) == 1) = (st == 1) := by rw [Bool.eq_iff_iff, beq_iff_eq, beq_iff_eq]; omega
              have hB : ((k : Int) == (F : Int)) = (k == F) := by rw [Bool.eq_iff_iff, beq_iff_eq, beq_iff_eq]; omega
              obtain ⟨cA, hcA⟩ : ∃ c : Bool, c = (st == 1) := ⟨_, rfl⟩
              obtain ⟨cB, hcB⟩ : ∃ c : Bool, c = (k == F) := ⟨_, rfl⟩
              obtain ⟨cS, hcS⟩ : ∃ c : Bool, c = soundV s.R st us nx (pDa d) := ⟨_, rfl⟩
              rw [← hcA] at hA
              rw [← hcB] at hB
              rw [← hcS] at HSND
              have HG2 := Lib.hid (show goodR s.R F k = ((cA == cB) && cS) by rw [HGOOD.out, hcA, hcB, hcS])
              clear hcA hcB hcS
              clear HGOOD
              cases cA <;> cases cB
              case false.true =>
                go_wp2_with fail
                go_meet
                exact ⟨by rw [HG2.out]; rfl, Fr.refl _ _⟩
              case true.false =>
                go_wp2_with fail
                go_meet
                exact ⟨by rw [HG2.out]; rfl, Fr.refl _ _⟩
              case false.false =>
                go_wp2_with fail
                refine HSND.out.mono ?_
                rintro e w7 ⟨rfl, hf7⟩
                have HF7 := Lib.hid hf7
                clear hf7
                go_wp2_with fail
                go_meet
                exact ⟨by rw [HG2.out]; rfl, HF7.out⟩
              case true.true =>
                go_wp2_with fail
                refine HSND.out.mono ?_
                rintro e w7 ⟨rfl, hf7⟩
                have HF7 := Lib.hid hf7
                clear hf7
                go_wp2_with fail
                go_meet
                exact ⟨by rw [HG2.out]; rfl, HF7.out⟩
            case rest =>
              obtain ⟨rfl, hfw⟩ := hcut
              have HFW := Lib.hid hfw
              clear hfw
              cases hg : goodR s.R F k with
              | false =>
                have HGD := Lib.hid hg
                clear hg
                go_wp2_with fail
                go_ret3
                refine ⟨.slice none 0 0, .slice none 0 0, [], ?_⟩
                rw [← HWK.out, show s.R.length + 1 - met.length = (s.R.length - met.length) + 1 by have := HML.out; omega, walkN_bad HM.out HGD.out]
                exact ⟨rfl, World.ownsRow_nil _ _ _ _, AL.nil _ _, rfl, HF2.out.trans (HJ4.out.fr.trans (HFB.out.trans HFW.out))⟩
              | true =>
                have HGD := Lib.hid hg
                clear hg
                have HJC := Lib.hid (HJ4.out.still (HFB.out.trans HFW.out))
                have HBC := Lib.hid (HFW.out.obj HBX.out (by simp))
                have HPC := Lib.hid (own_base (own_fr HPB.out HFW.out (by simp)) (B' := w2.heap.size) (by have := HJ4.out.fr.size; have := HF5.out.size; omega))
                clear HGOOD
                go_upto_region 16 with fail
                go_cut [4] (fun q wx => LJ w2 wx mb (met.length + 1) (met ++ [k]) (met ++ [k]) X q (.slice a5 X.length c5) ∧ wx.heap[bx]? = some (.cells #[.int .i64 st, .int .i64 us, .int .i64 nx, .slice pa 25 pc] 42) ∧ wx.ownsRow w2.heap.size 5 1 (.slice pa 25 pc) 25 ((pDa d).map B8))
                case first =>
                  have hfx : Fr [] wc (wc.alloc (.cells #[.int .i64 k] 3)) := (Fr.refl [] wc).alloc _
                  have HJX := Lib.hid (HJC.out.still hfx)
                  have HBY := Lib.hid (hfx.obj HBC.out (by simp))
                  have HPY := Lib.hid (own_fr HPC.out hfx (by simp))
                  have hnews : ∀ a, some (⟨wc.heap.size, 0, none⟩ : Addr) = some a → ∀ j u, [Value.int .i64 (k : Int)][j]? = some u → (wc.alloc (.cells #[.int .i64 k] 3)).cell? (a.add j) = some u := by
                    intro a ha j u hu
                    cases ha
                    rcases j with _ | j
                    · exact (cell_of_row _ wc.heap.size 0 _ _ _ (show (wc.alloc (.cells #[.int .i64 k] 3)).heap[wc.heap.size]? = some _ from heap_alloc_new wc _)).trans hu
                    · simp at hu
                  have HNEWS := Lib.hid hnews
                  have hml := HML.out
                  have hll := HOK.out.len
                  have hszc : w2.heap.size ≤ wc.heap.size := HJC.out.fr.size
                  clear hnews hfx
                  have HBW := Lib.hid (show w2.heap.size ≤ (wc.alloc (.cells #[.int .i64 k] 3)).heap.size by simp; omega)
                  go_wp2_with (at_builtin; refine wpList_appS _ rfl _ _ 40 rfl w2.heap.size 3 _ 1 8 Try.underlying40 infoI rfl (by decide) (.slice a4 met.length c4) met.length (met.map fun (k : Nat) => Value.int .i64 k) rfl HJX.out.i4 (some ⟨wc.heap.size, 0, none⟩) 1 1 [.int .i64 k] rfl rfl HNEWS.out (fun h => by cases h) (by simp [Value.oneCell']) (by unfold maxLen; omega) (by omega) HBW.out ?_; intro v' w' happ; have HAPP := Lib.hid happ; clear happ)
                  go_meet
                  have h1 := HJX.out.app4 HAPP.out
                  refine ⟨⟨h1.i4, h1.al, ?_, h1.fr, h1.hmb⟩, (app_frZ HAPP.out).obj HBY.out ?_, own_fr HPY.out (app_frZ HAPP.out) ?_⟩
                  · exact h1.mm
                  · intro hm
                    exact own_neT HJX.out.i4 HBY.out (by decide) (by simpa using hm)
                  · intro g hg hm
                    exact own_neR HPY.out HJX.out.i4 (by decide) hg (by simpa using hm)
                case rest =>
                  obtain ⟨hj, hb, hp⟩ := hcut
                  obtain ⟨a6, c6, rfl⟩ := own_slR hj.i4
                  have hll6 : (met ++ [k]).length = met.length + 1 := by simp
                  have HJ6 := Lib.hid hj
                  have hbx6 := hb
                  have HP6 := Lib.hid hp
                  clear hj hb hp
                  have hfx : Fr [] wc (wc.alloc (.cells #[.int .i64 st, .int .i64 us, .int .i64 nx, .slice pa 25 pc] 42)) := (Fr.refl [] wc).alloc _
                  have HJX := Lib.hid (HJ6.out.still hfx)
                  have HBY := Lib.hid (hfx.obj hbx6 (by simp))
                  have HPY := Lib.hid (own_fr HP6.out hfx (by simp))
                  have hnews : ∀ a, some (⟨wc.heap.size, 0, none⟩ : Addr) = some a → ∀ j u, [Value.int .i64 (st : Int), .int .i64 (us : Int), .int .i64 nx, .slice pa 25 pc][j]? = some u → (wc.alloc (.cells #[.int .i64 st, .int .i64 us, .int .i64 nx, .slice pa 25 pc] 42)).cell? (a.add j) = some u := by
                    intro a ha j u hu
                    cases ha
                    have hz := heap_alloc_new wc (.cells #[.int .i64 st, .int .i64 us, .int .i64 nx, .slice pa 25 pc] 42)
                    rw [addO, Nat.zero_add, cell_of_row _ wc.heap.size j _ _ _ hz]
                    simpa using hu
                  have HNEWS := Lib.hid hnews
                  have hml := HML.out
                  have hll := HOK.out.len
                  have HBW := Lib.hid (show w2.heap.size ≤ (wc.alloc (.cells #[.int .i64 st, .int .i64 us, .int .i64 nx, .slice pa 25 pc] 42)).heap.size from HJX.out.fr.size)
                  have HBX6 := Lib.hid hbx6
                  obtain ⟨x0, x1, x2, x3⟩ := fourB hbx6
                  clear hnews hfx hbx6
                  rw [hll6]
                  go_wp2_with (at_builtin; refine wpList_appS _ rfl _ _ 45 rfl w2.heap.size 42 _ 4 48 Try.underlying45 infoBL rfl (by decide) (.slice a5 X.length c5) X.length (biCells X) rfl HJX.out.al.row (some ⟨wc.heap.size, 0, none⟩) 1 1 [.int .i64 st, .int .i64 us, .int .i64 nx, .slice pa 25 pc] rfl rfl HNEWS.out (fun h => by cases h) (by simp [Value.oneCell']) (by unfold maxLen; have := HXL.out; omega) (by have := HXL.out; omega) HBW.out ?_; intro v' w' happ; have HAPP := Lib.hid happ; have hbo := (app_frZ happ).obj HBY.out (fun hm => HBNE.out (by simpa using hm)); obtain ⟨y0, y1, y2, y3⟩ := fourB hbo; clear happ hbo)
                  have hnxe : nxtR s.R k = nx := by unfold nxtR; rw [HREC.out, HNX.out]
                  refine ⟨⟨met ++ [k], X ++ [⟨pa, pc, d⟩], nx, rfl, ?_, ?_, ?_, ?_, ?_, ?_⟩, ?_⟩
                  · have h := LJ.app5 (y := ⟨pa, pc, d⟩) HJX.out HPY.out (by
                      have e : biC ⟨pa, pc, d⟩ = [.int .i64 st, .int .i64 us, .int .i64 nx, .slice pa 25 pc] := by rw [HST.out, HUU.out, HNX.out]; rfl
                      rw [e]
                      exact HAPP.out)
                    rw [hll6] at h
                    rw [hll6]
                    exact h
                  · rw [List.map_append, List.map_append, HX.out]
                    show _ ++ [d] = _ ++ [recAt s.R k]
                    rw [HREC.out]
                  · rw [List.nodup_append]
                    refine ⟨HND.out, by simp, fun i hi j hj e => ?_⟩
                    rw [List.mem_singleton.1 hj] at e
                    exact HM.out (e ▸ hi)
                  · intro i hi
                    rcases List.mem_append.1 hi with hi | hi
                    · exact HMU.out i hi
                    · rw [List.mem_singleton.1 hi]; exact HUS.out
                  · rw [← hnxe]
                    exact sndR_next (goodR_snd HGD.out)
                  · rw [hll6, ← HWK.out, show s.R.length + 1 - met.length = (s.R.length - met.length) + 1 by omega, walkN_on HM.out HGD.out, show s.R.length + 1 - (met.length + 1) = s.R.length - met.length by omega, hnxe]
                  · simp [lenV]
                    omega
  · have h32i : ((s.sz : Int) != 32) = true := by rw [bne_iff_ne]; omega
    have HW : Hid (walkE s first = ([], 4)) := Lib.hid (by unfold walkE; rw [if_pos h32])
    go_enter Try.func17, Try.ntmps17
    go_wp2_with fail
    refine HSZ.out.mono ?_
    rintro e w' ⟨rfl, rfl⟩
    go_wp2
    go_ret3
    refine ⟨.slice none 0 0, .slice none 0 0, [], ?_⟩
    rw [HW.out]
    exact ⟨rfl, World.ownsRow_nil _ _ _ _, AL.nil _ _, rfl, Fr.refl _ _⟩
end Go.Proofs.Ytkcipbjikimlfaa
