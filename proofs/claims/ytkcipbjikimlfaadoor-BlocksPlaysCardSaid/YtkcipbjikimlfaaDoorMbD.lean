/- The document's blocks: Store. -/
import Derived.Test.YtkcipbjikimlfaaDoorMbA
import Derived.Test.YtkcipbjikimlfaaDoorBkG
namespace Go.Proofs.YtkcipbjikimlfaaDoor
open Go.RowKit
attribute [local go_sem ↓] Go.wp_at_zero Go.wp_at_succ
attribute [local go_sem] Oper.semAt_some
/-- where the search for the i-th id begins -/
def bseI (R : Recs) (i : Nat) : Nat := if i = 0 then 0 else idAt R (i - 1) + 1
theorem bseI_next (R : Recs) (i : Nat) : nextFree R (bseI R i) = idAt R i := by
  cases i with
  | zero => rfl
  | succ i =>
    unfold bseI
    rw [if_neg (by omega), Nat.add_sub_cancel]
    rfl
theorem bseI_le (R : Recs) (i : Nat) : bseI R i ≤ idAt R i := by rw [← bseI_next]; exact nextFree_ge _ _
theorem bseI_used (R : Recs) (i k : Nat) (h1 : bseI R i ≤ k) (h2 : k < idAt R i) : usedR R (k : Int) = true := by
  rw [usedR_nat]
  exact nextFree_used R (bseI R i) k h1 (by rw [bseI_next]; exact h2)
theorem idAt_unused (R : Recs) (i : Nat) : usedR R (idAt R i : Nat) = false := by rw [usedR_nat, idAt_free]; rfl
theorem ids_getD (R : Recs) (n i : Nat) (h : i < n) : (ids R n).getD i 0 = idAt R i := by rw [List.getD_eq_getElem?_getD, ids_get R n i h]; rfl
set_option maxRecDepth 100000 in
set_option maxHeartbeats 6400000 in
theorem Store9 (B : Nat) (bs : List Nat) (w : World) (p : Nat) (s : RFS) (a : Option Addr) (c : Nat) (l : List UInt8) (h : MF B bs w p s) (hl : l.length ≤ 140737488351232) (hb : Bytes w a l) (hoff : Off a l bs) :
    Calls Tryd.prog 25 #[.pointer (some ⟨p, 0, none⟩), .slice a l.length c] w fun e w' => e = .returned (.tuple #[.int .i64 (stI s l.length : Nat), .int .i64 (stE s l.length)]) ∧ ∃ bs' t, MF B bs' w' p t ∧ Like s t (stS s l) ∧ Stp bs w bs' w' := by
  have HR := Lib.hid h
  have hok := h.ok
  have hhi := hok.hi
  have HB := Lib.hid hb
  have HOFF := Lib.hid hoff
  have HLV := Lib.hid (Live9 B bs w p s h)
  have hlv : liveN s.R ≤ 65536 := Nat.le_trans (liveN_le _) hok.len
  have x2 : w.cell? ⟨p, 2, none⟩ = some (.int .i64 s.sz) := by
    obtain ⟨v, X, h, rfl⟩ := h
    exact (four h.obj).2.2.1
  clear h hok hb hoff
  by_cases h32 : s.sz = 32
  · rw [h32] at x2
    obtain ⟨N, hN⟩ : ∃ N, N = nBlk l.length := ⟨_, rfl⟩
    have hN1 : N = max 1 ((l.length + 24) / 25) := hN
    have HN := Lib.hid hN
    go_enter Tryd.func25, Tryd.ntmps25
    go_wp2_with fail
    go_loopw [6] (fun q wr => ∃ n : Nat, 1 ≤ n ∧ n ≤ N ∧ q = .int .i64 n ∧ w = wr) (fun q _ => N - (intOf q).toNat)
    case atStart => exact ⟨1, by omega, by omega, rfl, by first | rfl | trivial⟩
    case round =>
      obtain ⟨n, hn1, hn2, rfl, rfl⟩ := hrel
      obtain ⟨m, hm⟩ : ∃ m, m = n * 25 := ⟨_, rfl⟩
      have q1 : IntKind.i64.wrap ((n : Int) * 25) = (m : Int) := by rw [IntWalk.i64_in _ (by omega)]; omega
      by_cases hlt : m < l.length
      · have hlti : (m : Int) < (l.length : Int) := by omega
        have q2 : IntKind.i64.wrap ((n : Int) + 1) = (n : Int) + 1 := IntWalk.i64_in _ (by omega)
        have hnn : n + 1 ≤ N := by omega
        clear hN hN1 hm
        go_wp2_with fail
        go_roundw
        case rel => exact ⟨n + 1, by omega, hnn, by go_num, by first | rfl | trivial⟩
        case measure => simp [intOf] <;> omega
      · have hlti : ¬ (m : Int) < (l.length : Int) := by omega
        have hnN : n = N := by omega
        subst hnN
        have HN1 := Lib.hid hN1
        have HMB := Lib.hid (show n * 25 ≤ l.length + 25 by omega)
        clear hN hN1 hm hn2 
        obtain ⟨fr, hfr⟩ : ∃ fr, fr = 65536 - liveN s.R := ⟨_, rfl⟩
        have q6 : IntKind.i64.wrap (65536 - (liveN s.R : Int)) = (fr : Int) := by rw [IntWalk.i64_in _ (by omega)]; omega
        have HFR := Lib.hid hfr
        by_cases hf : fr < n
        · have hfi : (fr : Int) < (n : Int) := by omega
          have HE : Hid (stE s l.length = 5) := Lib.hid (by unfold stE; rw [if_neg (by omega), ← HN.out, ← hfr, if_pos hf])
          clear hf hfr
          go_wp2_with fail
          refine HLV.out.mono ?_
          rintro e w' ⟨rfl, rfl⟩
          go_wp2_with fail
          go_ret2
          refine ⟨by unfold stI; rw [HE.out]; rfl, bs, s, HR.out, ⟨rfl, rfl, rfl, ?_⟩, Stp.refl _ _⟩
          unfold stS; rw [HE.out]; rfl
        · have hfi : ¬ (fr : Int) < (n : Int) := by omega
          have HE : Hid (stE s l.length = 0) := Lib.hid (by unfold stE; rw [if_neg (by omega), ← HN.out, ← hfr, if_neg hf])
          have hn65 : n ≤ 65536 := by omega
          have HID : Hid (∀ i, i < n → idAt s.R i < 65536) := Lib.hid fun i hi => by have := idAt_le s.R i; omega
          have HFUL := Lib.hid hf
          clear hf hfr
          go_wp2_with fail
          refine HLV.out.mono ?_
          rintro e w' ⟨rfl, rfl⟩
          go_wp2_with fail
          have HI0 : Hid ((w.alloc (.cells #[] 3)).ownsRow w.heap.size 3 1 (.slice (some ⟨w.heap.size, 0, none⟩) 0 0) 0 []) := Lib.hid (World.ownsRow_made w (e := 3) (size := 1) #[] 0 (Nat.le_refl _) (by unfold maxLen; omega) rfl)
          rw [decide_eq_false HFUL.out]
          clear x2 q1 hlti hlt q6 hfi HLV
          go_loopw [7, 8] (fun v q wr => ∃ i : Nat, i ≤ n ∧ q = .int .i64 i ∧ wr.ownsRow w.heap.size 3 1 v i ((ids s.R i).map fun (k : Nat) => Value.int .i64 k) ∧ Fr [] w wr) (fun _ q _ => n - (intOf q).toNat)
          case atStart => exact ⟨0, by omega, rfl, HI0.out, (Fr.refl _ _).alloc _⟩
          case round =>
            clear HI0
            obtain ⟨i, hi, rfl, ho, hfr⟩ := hrel
            obtain ⟨a7, c7, rfl⟩ := own_slR ho
            have HO := Lib.hid ho
            have HF := Lib.hid hfr
            clear ho hfr
            by_cases hlt : i < n
            · have hii : (i : Int) < (n : Int) := by omega
              obtain ⟨b0, hb0⟩ : ∃ b0, b0 = bseI s.R i := ⟨_, rfl⟩
              obtain ⟨I, hI⟩ : ∃ I, I = idAt s.R i := ⟨_, rfl⟩
              have hbI : b0 ≤ I := by rw [hb0, hI]; exact bseI_le _ _
              have hI6 : I < 65536 := by rw [hI]; exact HID.out i hlt
              have HB0 := Lib.hid hb0
              have HII := Lib.hid hI
              have HUS : Hid (∀ k : Nat, b0 ≤ k → k ≤ I → Calls Tryd.prog 11 #[.pointer (some ⟨p, 0, none⟩), .int .i64 k] wr fun e w' => e = .returned (.bool (decide (k < I))) ∧ wr = w') := Lib.hid fun k h1 h2 => by
                have h := Used9 B bs wr p s k (HR.out.keep HF.out)
                by_cases hk : k < I
                · rw [bseI_used s.R i k (hb0 ▸ h1) (hI ▸ hk)] at h
                  rw [decide_eq_true hk]
                  exact h
                · obtain rfl : k = I := by omega
                  rw [hI, idAt_unused, ← hI] at h
                  rw [decide_eq_false hk]
                  exact h
              clear hb0 hI
              go_upto_if 39 with fail
              go_cut [9] (fun v wx => v = .int .i64 b0 ∧ wx = wr)
              case first =>
                by_cases hz : i = 0
                · subst hz
                  go_wp2_with fail
                  go_meet
                  exact ⟨by rw [HB0.out]; rfl, rfl⟩
                · have hzi : (0 : Int) < (i : Int) := by omega
                  obtain ⟨j, hj⟩ : ∃ j, j = i - 1 := ⟨_, rfl⟩
                  have e1 : IntKind.i64.wrap ((i : Int) - 1) = (j : Int) := by rw [IntWalk.i64_in _ (by omega)]; omega
                  have hj0 : (0 : Int) ≤ (j : Int) := by omega
                  have hji : (j : Int) < (i : Int) := by omega
                  obtain ⟨g, c, e, -, -, hc⟩ := own_intC HO.out (k := j) (by rw [ids_length]; omega)
                  simp only [Value.slice.injEq] at e
                  obtain ⟨rfl, -, -⟩ := e
                  rw [ids_getD _ _ _ (by omega)] at hc
                  obtain ⟨x, hx⟩ : ∃ x, x = idAt s.R j := ⟨_, rfl⟩
                  rw [← hx] at hc
                  have hx6 : x < 65536 := by rw [hx]; exact HID.out j (by omega)
                  have e2 : IntKind.i64.wrap ((x : Int) + 1) = (x : Int) + 1 := IntWalk.i64_in _ (by omega)
                  have HBX : Hid (b0 = x + 1) := Lib.hid (by rw [HB0.out, hx, hj]; unfold bseI; rw [if_neg hz])
                  clear hj hx hz
                  go_wp2_with fail
                  go_meet
                  exact ⟨by rw [HBX.out]; rfl, rfl⟩
              case rest =>
                obtain ⟨rfl, rfl⟩ := hcut
                go_wp2_with fail
                go_loopw [9] (fun q w2 => ∃ k : Nat, b0 ≤ k ∧ k ≤ I ∧ q = .int .i64 k ∧ wc = w2) (fun q _ => I - (intOf q).toNat)
                case atStart => exact ⟨b0, by omega, hbI, rfl, by first | rfl | trivial⟩
                case round =>
                  obtain ⟨k, hk1, hk2, rfl, rfl⟩ := hrel
                  have HU1 := Lib.hid (HUS.out k hk1 hk2)
                  by_cases hk : k < I
                  · rw [decide_eq_true hk] at HU1
                    have e1 : IntKind.i64.wrap ((k : Int) + 1) = (k : Int) + 1 := IntWalk.i64_in _ (by omega)
                    go_wp2_with fail
                    refine HU1.out.mono ?_
                    rintro e w' ⟨rfl, rfl⟩
                    go_wp2_with fail
                    go_roundw
                    case rel => exact ⟨k + 1, by omega, by omega, by go_num, by first | rfl | trivial⟩
                    case measure => simp [intOf] <;> omega
                  · rw [decide_eq_false hk] at HU1
                    obtain rfl : k = I := by omega
                    have e1 : IntKind.i64.wrap ((i : Int) + 1) = (i : Int) + 1 := IntWalk.i64_in _ (by omega)
                    go_wp2_with fail
                    refine HU1.out.mono ?_
                    rintro e w' ⟨rfl, rfl⟩
                    have hfx : Fr [] wc (wc.alloc (.cells #[.int .i64 (k : Int)] 3)) := (Fr.refl [] _).alloc _
                    have hnews : ∀ a, some (⟨wc.heap.size, 0, none⟩ : Addr) = some a → ∀ j u, [Value.int .i64 (k : Int)][j]? = some u → (wc.alloc (.cells #[.int .i64 (k : Int)] 3)).cell? (a.add j) = some u := by
                      intro a ha j u hu
                      cases ha
                      have hz := heap_alloc_new wc (.cells #[.int .i64 (k : Int)] 3)
                      rw [addO, Nat.zero_add, cell_of_row _ _ j _ _ _ hz]
                      simpa using hu
                    have HNEWS := Lib.hid hnews
                    have HOX := Lib.hid (own_fr HO.out hfx (by simp))
                    have HFX := Lib.hid (HF.out.trans hfx)
                    have HBW := Lib.hid (show w.heap.size ≤ (wc.alloc (.cells #[.int .i64 (k : Int)] 3)).heap.size from HFX.out.size)
                    clear hnews hfx HU1 hk
                    go_wp2_with (at_builtin; refine wpList_appS _ rfl _ _ 30 rfl w.heap.size 3 _ 1 8 Tryd.underlying30 infoI rfl (by decide) (.slice a7 i c7) i ((ids s.R i).map fun (k : Nat) => Value.int .i64 k) rfl HOX.out (some ⟨wc.heap.size, 0, none⟩) 1 1 [.int .i64 k] rfl rfl HNEWS.out (fun h => by cases h) (by simp [Value.oneCell']) (by unfold maxLen; omega) (by omega) HBW.out ?_; intro v' w' happ; have HAPP := Lib.hid happ; clear happ)
                    go_roundw
                    case rel =>
                      refine ⟨i + 1, by omega, by go_num, ?_, HFX.out.next (app_frZ HAPP.out) (fun j hj hlt => by have := (own_lt HO.out (g := j) (by simpa using hj)).1; omega)⟩
                      rw [ids_succ, List.map_append, ← HII.out]
                      exact HAPP.out.own
                    case measure => simp [intOf] <;> omega
            · obtain rfl : n = i := by omega
              obtain ⟨w1, rfl⟩ : ∃ w1, w1 = wr := ⟨_, rfl⟩
              have hii : ¬ (n : Int) < (n : Int) := by omega
              obtain ⟨g7, c, e, hg1, hg2, -⟩ := own_intC HO.out (k := 0) (by rw [ids_length]; omega)
              simp only [Value.slice.injEq] at e
              obtain ⟨rfl, -, -⟩ := e
              have HM1 := Lib.hid (HR.out.keep HF.out)
              have HG7 : Hid (g7 ∉ bs ∧ g7 < w1.heap.size ∧ w.heap.size ≤ w1.heap.size) := Lib.hid ⟨fun hm => by have := (HR.out.lt _ hm).2; omega, hg2, HF.out.size⟩
              have HBY : Hid (∀ (W : World) (bs' : List Nat), Stp bs w1 bs' W → Bytes W a l) := Lib.hid fun W bs' hs => (HB.out.fr HF.out (.inr (by simp))).fr hs.1 HOFF.out
              clear hg1 hg2 hlt hi
              have HO7 := Lib.hid HO.out
              have HF1 := Lib.hid HF.out
              clear HF
              go_wp2_with fail
              go_loopw [10] (fun q wr => ∃ (i : Nat) (bs' : List Nat) (t : RFS), i ≤ n ∧ q = .int .i64 i ∧ MF B bs' wr p t ∧ Like s t (storeR s.R (putL s.R l n i)) ∧ Stp bs w1 bs' wr) (fun q _ => n - (intOf q).toNat)
              case atStart => exact ⟨0, bs, s, by omega, rfl, HM1.out, ⟨rfl, rfl, rfl, rfl⟩, Stp.refl _ _⟩
              case round =>
                clear HM1
                obtain ⟨i, bs1, t, hi, rfl, hr, hlk, hst⟩ := hrel
                have HT := Lib.hid hr
                have HLK := Lib.hid hlk
                have HST := Lib.hid hst
                have HB2 := Lib.hid (HBY.out _ _ hst)
                have HOR := Lib.hid (own_fr HO7.out hst.1 (fun g' hg' hm => by
                  have hgg : g7 = g' := by simpa [Value.ownBlock] using hg'
                  subst hgg
                  exact HG7.out.1 hm))
                clear hr hlk hst
                by_cases hlt : i < n
                · have hii : (i : Int) < (n : Int) := by omega
                  have hi0 : (0 : Int) ≤ (i : Int) := by omega
                  have hidl := HID.out i hlt
                  obtain ⟨I, hI⟩ : ∃ I, I = idAt s.R i := ⟨_, rfl⟩
                  rw [← hI] at hidl
                  have HI := Lib.hid hI
                  have HCL : Hid (∀ (W : World) (k : Nat), Fr [] wr W → k < n → W.cell? ⟨g7, k, none⟩ = some (.int .i64 (idAt s.R k : Nat))) := Lib.hid fun W k hW hk => by
                    obtain ⟨g', c', e', -, -, hc⟩ := own_intC (own_fr HOR.out hW (by simp)) (k := k) (by rw [ids_length]; exact hk)
                    simp only [Value.slice.injEq, Option.some.injEq, Addr.mk.injEq] at e'
                    obtain ⟨⟨rfl, -⟩, -, -⟩ := e'
                    rw [ids_getD _ _ _ hk] at hc
                    exact hc
                  obtain ⟨P, hP⟩ : ∃ P, P = 25 * i := ⟨_, rfl⟩
                  have hPl : P ≤ l.length := by have := HN1.out; omega
                  have HP := Lib.hid hP
                  have e1 : IntKind.i64.wrap (25 * (i : Int)) = (P : Int) := by rw [IntWalk.i64_in _ (by omega)]; omega
                  have e2 : IntKind.i64.wrap ((P : Int) + 25) = (P : Int) + 25 := IntWalk.i64_in _ (by omega)
                  obtain ⟨D, hD⟩ : ∃ D, D = partI l i := ⟨_, rfl⟩
                  have hDl : D.length = min 25 (l.length - P) := by rw [hD, partI_length, hP]
                  have HD := Lib.hid hD
                  have HDL := Lib.hid hDl
                  have HDG : Hid (∀ j, j < D.length → P + j < l.length ∧ D.getD j 0 = l.getD (P + j) 0) := Lib.hid fun j hj => by
                    refine ⟨by omega, ?_⟩
                    rw [hD]
                    unfold partI
                    rw [List.getD_eq_getElem?_getD, List.getD_eq_getElem?_getD, List.getElem?_take_of_lt (by omega), List.getElem?_drop, ← hP]
                  obtain ⟨E, hE⟩ : ∃ E, E = P + D.length := ⟨_, rfl⟩
                  have hE2 : E = min l.length (P + 25) := by omega
                  have HEE := Lib.hid hE
                  have HE2 := Lib.hid hE2
                  have hEl : E ≤ 140737488351232 := by omega
                  clear hI hP hD hDl hE hE2
                  go_upto_region 21 with fail
                  go_cut [11] (fun v wx => v = .int .i64 E ∧ wx = wr)
                  case first =>
                    by_cases hm : l.length ≤ P + 25
                    · have hmi : (l.length : Int) ≤ (P : Int) + 25 := by omega
                      have HEX : Hid (E = l.length) := Lib.hid (by rw [HE2.out]; omega)
                      clear hm
                      go_wp2_with fail
                      go_meet
                      exact ⟨by rw [HEX.out], rfl⟩
                    · have hmi : ¬ (l.length : Int) ≤ (P : Int) + 25 := by omega
                      have HEX : Hid (E = P + 25) := Lib.hid (by rw [HE2.out]; omega)
                      clear hm
                      go_wp2_with fail
                      go_meet
                      exact ⟨by rw [HEX.out]; rfl, rfl⟩
                  case rest =>
                    obtain ⟨hv, rfl⟩ := hcut
                    subst hv
                    obtain ⟨wb, rfl⟩ : ∃ wb, wb = wc := ⟨_, rfl⟩
                    obtain ⟨dl, hdl⟩ : ∃ dl, dl = D.length := ⟨_, rfl⟩
                    have hdl25 : dl ≤ 25 := by have := HDL.out; omega
                    have hEP : E = P + dl := by rw [HEE.out, hdl]
                    have e3 : IntKind.i64.wrap ((E : Int) - (P : Int)) = (dl : Int) := by rw [IntWalk.i64_in _ (by omega)]; omega
                    have e4 : IntKind.u8.wrap (dl : Int) = I8 (UInt8.ofNat dl) := by rw [wrap8_nat (by omega) (by omega)]; simp
                    have HDD := Lib.hid hdl
                    have HEP := Lib.hid hEP
                    clear hdl hEP
                    go_upto_if 73 with fail
                    obtain ⟨g2, hg2⟩ : ∃ g2, g2 = wb.heap.size := ⟨_, rfl⟩
                    rw [← hg2]
                    obtain ⟨w2, hw2⟩ : ∃ w2, w2 = wb.alloc (.cells #[.int .u8 0, .int .u8 (I8 (UInt8.ofNat dl))] 5) := ⟨_, rfl⟩
                    rw [← hw2]
                    have HG2 := Lib.hid hg2
                    have HGR : Hid (Grow [] wb w2 (.slice (some ⟨g2, 0, none⟩) 2 2) [0, UInt8.ofNat dl]) := Lib.hid (by
                      rw [hw2, hg2]
                      exact ⟨own_bs wb [0, UInt8.ofNat dl] [.int .u8 0, .int .u8 (I8 (UInt8.ofNat dl))] (by show [Value.int .u8 (I8 0), _] = _; rw [I80]; rfl) (by simp), by simp, by simp, (Fr.refl _ _).alloc _⟩)
                    have y0 : w2.cell? ⟨g2, 0, none⟩ = some (.int .u8 0) := by rw [hw2, hg2]; exact cell_of_row _ _ 0 _ _ _ (heap_alloc_new _ _)
                    have y0f := own_freeS HGR.out.own (g := g2) rfl 0
                    obtain ⟨sb, hsb⟩ : ∃ sb : UInt8, sb = if i = 0 then 1 else 0 := ⟨_, rfl⟩
                    have HSB := Lib.hid hsb
                    clear hw2 hg2 hsb
                    go_cut [] (fun wx => Grow [] wb wx (.slice (some ⟨g2, 0, none⟩) 2 2) [sb, UInt8.ofNat dl])
                    case first =>
                      by_cases hz : i = 0
                      · have HZ := Lib.hid hz
                        have hzi : ((i : Int) == 0) = true := by rw [hz]; rfl
                        clear hz
                        go_wp2_with fail
                        go_meet
                        have h1 := own_set2 HGR.out.own 0 (.int .u8 1)
                        refine ⟨?_, by simp, by simp, HGR.out.fr.next ((Fr.refl [g2] w2).setCell (by simp) _) (fun j hj hlt => by simp at hj; have := HG2.out; omega)⟩
                        rw [HSB.out, if_pos HZ.out]
                        rw [show (List.map B8 [0, UInt8.ofNat dl]).set 0 (.int .u8 1) = List.map B8 [1, UInt8.ofNat dl] by show [Value.int .u8 1, _] = [Value.int .u8 (I8 1), _]; rw [show I8 1 = 1 from by decide +kernel]] at h1
                        exact h1
                      · have HZ := Lib.hid hz
                        have hzi : ((i : Int) == 0) = false := by rw [beq_eq_false_iff_ne]; omega
                        clear hz
                        go_wp2_with fail
                        go_meet
                        rw [HSB.out, if_neg HZ.out]
                        exact HGR.out
                    case rest =>
                      clear HGR y0 y0f
                      have HGR := Lib.hid hcut
                      obtain ⟨w3, rfl⟩ : ∃ w3, w3 = wc := ⟨_, rfl⟩
                      clear hcut
                      have e5 : IntKind.i64.wrap ((i : Int) + 1) = (i : Int) + 1 := IntWalk.i64_in _ (by omega)
                      obtain ⟨nx, hnx⟩ : ∃ nx : Nat, nx = if i + 1 < n then idAt s.R (i + 1) + 1 else 0 := ⟨_, rfl⟩
                      have hnx6 : nx ≤ 65536 := by rw [hnx]; split <;> (first | (have := HID.out (i + 1) (by assumption); omega) | omega)
                      have HNX := Lib.hid hnx
                      clear hnx
                      go_upto_if 79 with fail
                      go_cut [13] (fun v wx => v = .int .i64 nx ∧ wx = w3)
                      case first =>
                        by_cases hx : i + 1 < n
                        · have hxi : (i : Int) + 1 < (n : Int) := by omega
                          have hx0 : (0 : Int) ≤ (i : Int) + 1 := by omega
                          have hc2 := HCL.out w3 (i + 1) HGR.out.fr hx
                          obtain ⟨x, hxx⟩ : ∃ x, x = idAt s.R (i + 1) := ⟨_, rfl⟩
                          rw [← hxx] at hc2
                          have hx6 : x < 65536 := by rw [hxx]; exact HID.out (i + 1) hx
                          have e6 : IntKind.i64.wrap ((x : Int) + 1) = (x : Int) + 1 := IntWalk.i64_in _ (by omega)
                          have HXN : Hid (nx = x + 1) := Lib.hid (by rw [HNX.out, if_pos hx, hxx])
                          clear hxx hx
                          go_wp2_with fail
                          go_meet
                          exact ⟨by rw [HXN.out]; rfl, rfl⟩
                        · have hxi : ¬ (i : Int) + 1 < (n : Int) := by omega
                          have HXN : Hid (nx = 0) := Lib.hid (by rw [HNX.out, if_neg hx])
                          clear hx
                          go_wp2_with fail
                          go_meet
                          exact ⟨by rw [HXN.out]; rfl, rfl⟩
                      case rest =>
                        obtain ⟨hv, rfl⟩ := hcut
                        subst hv
                        obtain ⟨w3, rfl⟩ : ∃ w3, w3 = wc := ⟨_, rfl⟩
                        have HNUM : Hid (Calls Tryd.prog 49 #[.int .i64 4, .int .u64 (nx : Int)] w3 fun e w' => ∃ g cap, e = .returned (.slice (some ⟨g, 0, none⟩) 4 cap) ∧ Bytes w' (some ⟨g, 0, none⟩) (by8 4 nx) ∧ w3.heap.size ≤ g ∧ Fr [] w3 w') := by
                          refine Lib.hid ((refnum_int 4 (nx : Int) w3 (by unfold Wd; omega) (by omega) (by omega)).mono ?_)
                          rintro e w' ⟨v, rfl, hv⟩
                          rw [Int.toNat_natCast] at hv
                          obtain ⟨g, cap, rfl, hg, _, hb, hf⟩ := hv.bytes
                          exact ⟨g, cap, by rw [by8_length], hb, hg, hf⟩
                        have e7 : IntKind.u64.wrap (nx : Int) = (nx : Int) := wrapU_int _ (by omega) (by omega)
                        go_wp2_with fail
                        refine HNUM.out.mono ?_
                        rintro e w4 ⟨gN, cN, rfl, hbN, hgN, hfN⟩
                        have HBN := Lib.hid hbN
                        have HGN := Lib.hid (HGR.out.fr0 hfN)
                        clear hbN hgN hfN HGR HNUM e5 e7
                        go_wp2_with (at_builtin; refine wpList_apB _ rfl _ _ 22 rfl wb.heap.size 5 Tryd.underlying22 info8 (.slice (some ⟨g2, 0, none⟩) 2 2) [sb, UInt8.ofNat dl] rfl HGN.out.own (some ⟨gN, 0, none⟩) 4 cN (by8 4 nx) rfl (by8_length ..) HBN.out (fun h => by cases h) (by simp only [List.length_cons, List.length_nil]; omega) HGN.out.size ?_; intro v' w5 happ; have HA5 := Lib.hid (HGN.out.app happ); clear happ)
                        obtain ⟨L1, hL1⟩ : ∃ L1, L1 = [sb, UInt8.ofNat dl] ++ by8 4 nx := ⟨_, rfl⟩
                        rw [← hL1] at HA5
                        have HL1 := Lib.hid hL1
                        have HL1L : Hid (L1.length = 6) := Lib.hid (by rw [hL1, List.length_append, by8_length]; rfl)
                        clear hL1 HBN HGN
                        go_loopw [12, 14] (fun v q wx => ∃ j : Nat, j ≤ dl ∧ q = .int .i64 ((P + j : Nat) : Int) ∧ Grow [] wb wx v (L1 ++ D.take j)) (fun _ q _ => E - (intOf q).toNat)
                        case atStart => exact ⟨0, by omega, rfl, by simpa using HA5.out⟩
                        case round =>
                          clear HA5
                          obtain ⟨j, hj, rfl, hgr⟩ := hrel
                          obtain ⟨K, hK⟩ : ∃ K, K = P + j := ⟨_, rfl⟩
                          rw [← hK]
                          have HK := Lib.hid hK
                          have HG := Lib.hid hgr
                          clear hgr
                          have hEP := HEP.out
                          by_cases hlj : j < dl
                          · have hki : (K : Int) < (E : Int) := by omega
                            have hk0 : (0 : Int) ≤ (K : Int) := by omega
                            obtain ⟨hd1, hd2⟩ := HDG.out j (by rw [← HDD.out]; exact hlj)
                            have hkl : (K : Int) < (l.length : Int) := by omega
                            obtain ⟨ba, oa, hab, hc⟩ := HB2.out.at (by omega)
                            subst hab
                            have d3 := HG.out.fr.cell (hc K (by omega)) (by simp)
                            rw [show l.getD K 0 = D.getD j 0 by rw [hd2, hK]] at d3
                            obtain ⟨q, hq⟩ : ∃ q, q = D.getD j 0 := ⟨_, rfl⟩
                            rw [← hq] at d3
                            replace d3 : wr.cell? ⟨ba, oa + K, none⟩ = some (.int .u8 (I8 q)) := d3
                            have e8 : IntKind.i64.wrap ((K : Int) + 1) = (K : Int) + 1 := IntWalk.i64_in _ (by omega)
                            have HQ : Hid (L1 ++ D.take (j + 1) = (L1 ++ D.take j) ++ [q]) := Lib.hid (by rw [take_snoc D j (by rw [← HDD.out]; exact hlj), hq, List.append_assoc]; simp [List.getD, show j < D.length by rw [← HDD.out]; exact hlj])
                            have HBJ : Hid ((L1 ++ D.take j).length ≤ 100) := Lib.hid (by rw [List.length_append, List.length_take, HL1L.out]; omega)
                            obtain ⟨BJ, hBJ⟩ : ∃ BJ, BJ = L1 ++ D.take j := ⟨_, rfl⟩
                            rw [← hBJ] at HG HQ HBJ
                            clear hc hq hBJ hd1 hd2 hK hEP
                            go_wp2_with (at_builtin; refine wpList_apB _ rfl _ _ 22 rfl wb.heap.size 5 Tryd.underlying22 info8 u12 BJ rfl (HG.out.alloc _).own (some ⟨wr.heap.size, 0, none⟩) 1 1 [q] rfl rfl (Bytes.one q rfl) (fun h => by cases h) (by have := HBJ.out; omega) (HG.out.alloc _).size ?_; intro v' w6 happ; have HA := Lib.hid ((HG.out.alloc _).app happ); clear happ)
                            go_roundw
                            case rel => exact ⟨j + 1, by omega, congrArg (Value.int .i64) (by have := HK.out; omega), by rw [HQ.out]; exact HA.out⟩
                            case measure => have := HK.out; simp [intOf] <;> omega
                          · have hje : j = dl := by omega
                            have hki : ¬ (K : Int) < (E : Int) := by omega
                            obtain ⟨L2, hL2⟩ : ∃ L2, L2 = L1 ++ D := ⟨_, rfl⟩
                            rw [show L1 ++ D.take j = L2 by rw [hL2, List.take_of_length_le (by rw [← HDD.out]; omega)]] at HG
                            have HL2 := Lib.hid hL2
                            have HL2L : Hid (L2.length = 6 + dl) := Lib.hid (by rw [hL2, List.length_append, HL1L.out, ← HDD.out])
                            have HG2 := Lib.hid HG.out
                            clear hje hL2 hEP hK hlj
                            go_wp2_with fail
                            go_loopw [12] (fun v wx => ∃ j : Nat, 6 + dl + j ≤ 31 ∧ Grow [] wb wx v (L2 ++ zs j)) (fun v _ => 31 - lenV v)
                            case atStart => exact ⟨0, by omega, by simpa [zs] using HG2.out⟩
                            case round =>
                              clear HG HG2
                              obtain ⟨j, hj, hgr⟩ := hrel
                              obtain ⟨ar, cr, hv⟩ := own_slR hgr.own
                              have hlen : (L2 ++ zs j).length = 6 + dl + j := by rw [List.length_append, HL2L.out, zs_length]
                              rw [hlen] at hv
                              subst hv
                              obtain ⟨m2, hm2⟩ : ∃ m2, m2 = 6 + dl + j := ⟨_, rfl⟩
                              rw [← hm2] at hj hgr hlen ⊢
                              obtain ⟨L3, hL3⟩ : ∃ L3, L3 = L2 ++ zs j := ⟨_, rfl⟩
                              rw [← hL3] at hgr hlen
                              have HG := Lib.hid hgr
                              have HLL := Lib.hid hlen
                              have HL3 := Lib.hid hL3
                              have HM2 := Lib.hid hm2
                              clear hgr hlen hL3 hm2
                              by_cases hmm : m2 < 31
                              · have hmi : (m2 : Int) < 31 := by omega
                                have hone : Bytes (wr.alloc (.cells #[.int .u8 0] 5)) (some ⟨wr.heap.size, 0, none⟩) [0] := by
                                  have h := Bytes.one (w := wr) (g := wr.heap.size) (t := 5) (fr := (0, 0)) 0 rfl
                                  rw [I80] at h
                                  exact h
                                have HONE := Lib.hid hone
                                clear hone
                                go_wp2_with (at_builtin; refine wpList_apB _ rfl _ _ 22 rfl wb.heap.size 5 Tryd.underlying22 info8 (.slice ar m2 cr) L3 rfl (HG.out.alloc _).own (some ⟨wr.heap.size, 0, none⟩) 1 1 [0] rfl rfl HONE.out (fun h => by cases h) (by rw [HLL.out]; omega) (HG.out.alloc _).size ?_; intro v' w6 happ; have h0 := (HG.out.alloc _).app happ; obtain ⟨a6, c6, e6⟩ := own_slR h0.own; subst e6; have HA := Lib.hid h0; clear happ h0)
                                go_roundw
                                case rel =>
                                  refine ⟨j + 1, by have := HM2.out; omega, ?_⟩
                                  have h := HA.out
                                  rw [show L2 ++ zs (j + 1) = L3 ++ [0] by rw [HL3.out, zs_snoc, List.append_assoc]]
                                  rw [List.length_append] at h
                                  exact h
                                case measure => have := HLL.out; simp [lenV] <;> omega
                              · obtain rfl : m2 = 31 := by omega
                                have HREC : Hid (L3 = recI s.R l n i) := Lib.hid (by
                                  have hj2 : j = 25 - D.length := by have := HM2.out; have := HDD.out; omega
                                  rw [HL3.out, HL2.out, HL1.out]
                                  unfold recI blkB
                                  rw [← HD.out, by8_1, by8_1, ← HDD.out, ← HNX.out, hj2, show UInt8.ofNat (if i = 0 then 1 else 0) = sb by rw [HSB.out]; split <;> rfl]
                                  simp [zs, HDD.out])
                                obtain ⟨g3, hg3⟩ : ∃ g3, ar = some ⟨g3, 0, none⟩ := by
                                  rcases HG.out.own.2 with ⟨e, _⟩ | ⟨g', cap, cur, e, _⟩
                                  · exact absurd e (by simp)
                                  · simp only [Value.slice.injEq] at e
                                    exact ⟨g', e.1⟩
                                subst hg3
                                have hgo := own_lt HG.out.own (g := g3) rfl
                                have hpe : putE t (I : Int) L3.length = 0 := putE_ok (by omega) (by rw [HLL.out, HLK.out.sz, h32])
                                have hps : putS t (I : Int) L3 = t.put I L3 := by unfold putS; rw [if_pos hpe]; rfl
                                have hbb : Bytes wr (some ⟨g3, 0, none⟩) L3 := own_bytes (g := g3) (cap := cr) (B := wb.heap.size) (e := 5) (by have h := HG.out.own; rw [HLL.out] at h ⊢; exact h)
                                have hPUT := Put9 B bs1 wr p t (I : Int) (some ⟨g3, 0, none⟩) cr L3 (HT.out.keep HG.out.fr) (by rw [HLL.out]; decide) hbb (fun ad e hm => by cases e; exact absurd (HT.out.lt _ hm).2 (by show ¬ g3 < _; omega))
                                rw [hpe, hps, HLL.out] at hPUT
                                have HPUT := Lib.hid hPUT
                                have hc1 := HCL.out wr i HG.out.fr hlt
                                rw [← HI.out] at hc1
                                have e9 : IntKind.i64.wrap ((i : Int) + 1) = (i : Int) + 1 := IntWalk.i64_in _ (by omega)
                                clear hPUT hpe hps hbb hgo
                                go_wp2_with fail
                                refine HPUT.out.mono ?_
                                rintro e w7 ⟨rfl, bs4, h4, s4⟩
                                have HR4 := Lib.hid h4
                                have HS4 := Lib.hid s4
                                clear h4 s4 HPUT
                                go_wp2_with fail
                                go_roundw
                                case rel =>
                                  refine ⟨i + 1, bs4, _, by omega, by go_num, HR4.out, ⟨HLK.out.kd, HLK.out.vr, HLK.out.sz, ?_⟩, (HST.out.keepR HG.out.fr).trans HS4.out⟩
                                  show putR t.R I L3 = _
                                  rw [HLK.out.R, putL_succ, storeR_snoc, HI.out, HREC.out]
                                case measure => simp [intOf] <;> omega
                · obtain rfl : i = n := by omega
                  have hii : ¬ (i : Int) < (i : Int) := by omega
                  obtain ⟨g', c', e', -, -, hc⟩ := own_intC HOR.out (k := 0) (by rw [ids_length]; omega)
                  simp only [Value.slice.injEq, Option.some.injEq, Addr.mk.injEq] at e'
                  obtain ⟨⟨rfl, -⟩, -, -⟩ := e'
                  rw [ids_getD _ _ _ (by omega)] at hc
                  have hn0 : (0 : Int) < (i : Int) := by omega
                  have HII : Hid (stI s l.length = idAt s.R 0 ∧ stS s l = stR s.R l) := Lib.hid ⟨by unfold stI; rw [if_pos HE.out], by unfold stS; rw [if_pos HE.out]⟩
                  go_wp2_with fail
                  go_ret2
                  refine ⟨by rw [HII.out.1, HE.out]; rfl, bs1, t, HT.out, ⟨HLK.out.kd, HLK.out.vr, HLK.out.sz, ?_⟩, Stp.keepL HF1.out HST.out⟩
                  rw [HLK.out.R, HII.out.2]
                  unfold stR
                  rw [← HN.out]
  · have h32i : ((s.sz : Int) != 32) = true := by rw [bne_iff_ne]; omega
    have HE : Hid (stE s l.length = 4) := Lib.hid (if_pos h32)
    clear h32
    go_enter Tryd.func25, Tryd.ntmps25
    go_wp2_with fail
    go_ret2
    refine ⟨by unfold stI; rw [HE.out]; rfl, bs, s, HR.out, ⟨rfl, rfl, rfl, ?_⟩, Stp.refl _ _⟩
    unfold stS; rw [HE.out]; rfl
end Go.Proofs.YtkcipbjikimlfaaDoor

/- The document's blocks: Walk. -/
namespace Go.Proofs.YtkcipbjikimlfaaDoor
open Go.RowKit
attribute [local go_sem ↓] Go.wp_at_zero Go.wp_at_succ
attribute [local go_sem] Oper.semAt_some
theorem bytes_cellN {w : World} {b j : Nat} {d : List UInt8} (hb : Bytes w (some ⟨b, 0, none⟩) d) (hj : j < d.length) : w.cell? ⟨b, j, none⟩ = some (.int .u8 ((d.getD j 0).toNat : Nat)) := by
  rcases hb with h0 | ⟨b', off, e, hcell⟩
  · rw [h0] at hj; cases hj
  · simp only [Option.some.injEq, Addr.mk.injEq] at e
    obtain ⟨rfl, rfl, -⟩ := e
    have h1 := hcell j hj
    rw [Nat.zero_add] at h1
    rw [h1]
    show some (Value.int .u8 (I8 _)) = _
    rw [I8_toN]
theorem infoBo : (Tryd.prog.info? 4).map (fun i => (i.zero, i.size, i.bytes)) = some (some (.bool false), 1, 1) := by kernel_rfl
/-- which ids were met -/
def mB (n : Nat) (met : List Nat) : List Value := (List.range n).map fun i => .bool (decide (i ∈ met))
theorem mB_length (n : Nat) (met : List Nat) : (mB n met).length = n := by unfold mB; simp
theorem mB_nil (n : Nat) : mB n [] = List.replicate n (.bool false) := by
  unfold mB
  apply List.ext_getElem
  · simp
  · intro i h1 h2; simp
theorem mB_get {n k : Nat} {met : List Nat} (h : k < n) : (mB n met)[k]? = some (.bool (decide (k ∈ met))) := by unfold mB; simp [h]
theorem mB_set {n k : Nat} {met : List Nat} (h : k < n) : (mB n met).set k (.bool true) = mB n (met ++ [k]) := by
  apply List.ext_getElem
  · simp [mB_length]
  · intro i h1 h2
    rw [List.getElem_set]
    unfold mB
    by_cases hi : k = i
    · subst hi; simp
    · rw [if_neg hi]
      simp [Ne.symm hi]
theorem good_doc {R : Recs} {F k : Nat} {sb : Nat} (hsb : sb = if k = F then 1 else 0) : (!(goodR R F k)) = (!(pSt (recAt R k) == sb) || !(sndR R k)) := by
  unfold goodR
  subst hsb
  by_cases hk : k = F
  · rw [if_pos hk, beq_iff_eq.2 hk]
    cases pSt (recAt R k) == 1 <;> cases sndR R k <;> rfl
  · rw [if_neg hk, beq_eq_false_iff_ne.2 hk]
    cases hs : sndR R k with
    | false => simp
    | true =>
      have h1 : pSt (recAt R k) ≤ 1 := by
        unfold sndR soundV at hs
        simp only [Bool.and_eq_true, decide_eq_true_eq] at hs
        exact hs.1
      by_cases h2 : pSt (recAt R k) = 1
      · rw [h2]; rfl
      · rw [show pSt (recAt R k) = 0 by omega]; rfl
set_option maxRecDepth 100000 in
set_option maxHeartbeats 6400000 in
theorem Walk9 (B : Nat) (bs : List Nat) (w : World) (p : Nat) (s : RFS) (first : Int) (h : MF B bs w p s) :
    Calls Tryd.prog 22 #[.pointer (some ⟨p, 0, none⟩), .int .i64 first] w fun e w' => ∃ v, e = .returned (.tuple #[v, .int .i64 (walkE s first).2]) ∧ w'.ownsRow w.heap.size 3 1 v (walkE s first).1.length ((walkE s first).1.map fun (k : Nat) => Value.int .i64 k) ∧ Fr [] w w' := by
  have HR := Lib.hid h
  have HOK := Lib.hid h.ok
  have HU := Lib.hid (fun W (hf : Fr [] w W) => Used9 B bs W p s first (h.keep hf))
  have x2 : w.cell? ⟨p, 2, none⟩ = some (.int .i64 s.sz) := by
    obtain ⟨v, X, h, rfl⟩ := h
    exact (four h.obj).2.2.1
  obtain ⟨w1, hw1⟩ : ∃ w1, w1 = w.alloc (.cells #[] 3) := ⟨_, rfl⟩
  have hf1 : Fr [] w w1 := by rw [hw1]; exact (Fr.refl _ _).alloc _
  have HF1 := Lib.hid hf1
  have HI0 : Hid (w1.ownsRow w.heap.size 3 1 (.slice (some ⟨w.heap.size, 0, none⟩) 0 0) 0 []) := Lib.hid (by rw [hw1]; exact World.ownsRow_made w (e := 3) (size := 1) #[] 0 (Nat.le_refl _) (by unfold maxLen; omega) rfl)
  have x2 := hf1.cell x2 (by simp)
  have HW1 := Lib.hid hw1
  clear h hf1
  by_cases h32 : s.sz = 32
  · rw [h32] at x2
    cases hu : usedR s.R first with
    | false =>
      have HW : Hid (walkE s first = ([], 3)) := Lib.hid (by unfold walkE walkS; rw [if_neg (by omega), hu]; rfl)
      rw [hu] at HU
      rw [HW.out]
      go_enter Tryd.func22, Tryd.ntmps22
      go_upto_region 2 with fail
      rw [← hw1]
      clear hw1
      go_wp2_with fail
      refine (HU.out w1 HF1.out).mono ?_
      rintro e w' ⟨rfl, rfl⟩
      go_wp2_with fail
      go_ret2
      exact ⟨_, rfl, HI0.out, HF1.out⟩
    | true =>
      obtain ⟨h0, h1, -⟩ := usedR_lt hu
      obtain ⟨F, rfl⟩ : ∃ F : Nat, first = F := ⟨first.toNat, by omega⟩
      obtain ⟨n, hn⟩ : ∃ n, n = s.R.length := ⟨_, rfl⟩
      have hFn : F < n := by omega
      have hn6 : n ≤ 65536 := by have := HOK.out.len; omega
      have HU0 := Lib.hid hu
      rw [hu] at HU
      have HW : Hid (walkE s F = walkN s.R F (s.R.length + 1) [] F) := Lib.hid (by unfold walkE walkS; rw [if_neg (by omega), hu]; simp)
      rw [HW.out]
      obtain ⟨g, c, b, c2, x3, -, -, -, -, -⟩ := HR.out.recU h32 (k := F) (by rw [usedB_nat]; exact hu)
      rw [← hn] at x3
      have HX3 := Lib.hid x3
      have HN := Lib.hid hn
      clear hu h0 h1 x3 hn
      go_enter Tryd.func22, Tryd.ntmps22
      go_upto_region 2 with fail
      rw [← hw1]
      clear hw1
      go_wp2_with fail
      refine (HU.out w1 HF1.out).mono ?_
      rintro e w' ⟨rfl, rfl⟩
      clear x2
      go_wp2_with fail
      have HM0 : Hid ((w1.alloc (.cells #[] 4)).ownsRow w1.heap.size 4 1 (.slice (some ⟨w1.heap.size, 0, none⟩) 0 0) 0 []) := Lib.hid (World.ownsRow_made w1 (e := 4) (size := 1) #[] 0 (Nat.le_refl _) (by unfold maxLen; omega) rfl)
      go_loopw [7, 8] (fun v q wr => ∃ j : Nat, j ≤ n ∧ q = .int .i64 j ∧ wr.ownsRow w1.heap.size 4 1 v j (List.replicate j (.bool false)) ∧ Fr [] w1 wr) (fun _ q _ => n - (intOf q).toNat)
      case atStart => exact ⟨0, by omega, rfl, HM0.out, (Fr.refl _ _).alloc _⟩
      case round =>
        clear HM0
        obtain ⟨j, hj, rfl, ho, hfr⟩ := hrel
        obtain ⟨a7, c7, rfl⟩ := own_slR ho
        have x3 := (HF1.out.trans hfr).cell HX3.out (by simp)
        have HO := Lib.hid ho
        have HF := Lib.hid hfr
        clear ho hfr
        by_cases hlt : j < n
        · have hii : (j : Int) < (n : Int) := by omega
          have hfx : Fr [] wr (wr.alloc (.cells #[.bool false] 4)) := (Fr.refl [] _).alloc _
          have hnews : ∀ a, some (⟨wr.heap.size, 0, none⟩ : Addr) = some a → ∀ j u, [Value.bool false][j]? = some u → (wr.alloc (.cells #[.bool false] 4)).cell? (a.add j) = some u := by
            intro a ha j u hu
            cases ha
            have hz := heap_alloc_new wr (.cells #[.bool false] 4)
            rw [addO, Nat.zero_add, cell_of_row _ _ j _ _ _ hz]
            simpa using hu
          have HNEWS := Lib.hid hnews
          have HOX := Lib.hid (own_fr HO.out hfx (by simp))
          have HFX := Lib.hid (HF.out.trans hfx)
          have HBW := Lib.hid (show w1.heap.size ≤ (wr.alloc (.cells #[.bool false] 4)).heap.size from HFX.out.size)
          have e1 : IntKind.i64.wrap ((j : Int) + 1) = (j : Int) + 1 := IntWalk.i64_in _ (by omega)
          clear hnews hfx
          go_wp2_with (at_builtin; refine wpList_appS _ rfl _ _ 94 rfl w1.heap.size 4 _ 1 1 Tryd.underlying94 infoBo rfl (by decide) (.slice a7 j c7) j (List.replicate j (.bool false)) rfl HOX.out (some ⟨wr.heap.size, 0, none⟩) 1 1 [.bool false] rfl rfl HNEWS.out (fun h => by cases h) (by simp [Value.oneCell']) (by unfold maxLen; omega) (by omega) HBW.out ?_; intro v' w' happ; have HAPP := Lib.hid happ; clear happ)
          go_roundw
          case rel =>
            refine ⟨j + 1, by omega, by go_num, ?_, HFX.out.next (app_frZ HAPP.out) (fun i hi hlt => ?_)⟩
            · rw [List.replicate_succ']
              exact HAPP.out.own
            · have := (own_lt HO.out (g := i) (by simpa using hi)).1
              omega
          case measure => simp [intOf] <;> omega
        · obtain rfl : j = n := by omega
          have hii : ¬ (j : Int) < (j : Int) := by omega
          obtain ⟨g7, e7⟩ : ∃ g7, a7 = some ⟨g7, 0, none⟩ := by
            rcases HO.out.2 with ⟨e, h0⟩ | ⟨g', cap, cur, e, _⟩
            · omega
            · simp only [Value.slice.injEq] at e
              exact ⟨g', e.1⟩
          subst e7
          obtain ⟨w2, rfl⟩ : ∃ w2, w2 = wr := ⟨_, rfl⟩
          have HMB : Hid (w2.ownsRow w1.heap.size 4 1 (.slice (some ⟨g7, 0, none⟩) j c7) j (mB j [])) := Lib.hid (by rw [mB_nil]; exact HO.out)
          have HI2 := Lib.hid (own_fr HI0.out HF.out (by simp))
          have HF2 := Lib.hid (HF1.out.trans HF.out)
          clear hlt hj HO HI0 HF
          go_wp2_with fail
          go_loopw [6, 9] (fun v q wr => ∃ (met : List Nat) (id : Int), q = .int .i64 id ∧ wr.ownsRow w.heap.size 3 1 v met.length (met.map fun (k : Nat) => Value.int .i64 k) ∧ wr.ownsRow w1.heap.size 4 1 (.slice (some ⟨g7, 0, none⟩) j c7) j (mB j met) ∧ met.Nodup ∧ (∀ i ∈ met, usedR s.R (i : Nat) = true) ∧ (id = -1 ∨ usedR s.R id = true) ∧ ((met = [] → id = F) ∧ (met ≠ [] → F ∈ met)) ∧ walkN s.R F (s.R.length + 1 - met.length) met id = walkN s.R F (s.R.length + 1) [] F ∧ Fr [] w wr) (fun v _ _ => j + 1 - lenV v)
          case atStart => exact ⟨[], F, rfl, HI2.out, HMB.out, List.nodup_nil, fun i hi => absurd hi (by simp), .inr HU0.out, ⟨fun _ => rfl, fun h => absurd rfl h⟩, rfl, HF2.out⟩
          case round =>
            clear HI2 HMB x3
            obtain ⟨met, id, rfl, ho6, ho7, hnd, hmu, hid, hfst, hwk, hfr⟩ := hrel
            obtain ⟨a6, c6, rfl⟩ := own_slR ho6
            have HML := Lib.hid (show met.length ≤ s.R.length from nodup_le _ hnd fun i hi => by
              have := (usedR_lt (hmu i hi)).2.1
              omega)
            have HO6 := Lib.hid ho6
            have HO7 := Lib.hid ho7
            have HND := Lib.hid hnd
            have HMU := Lib.hid hmu
            have HFST := Lib.hid hfst
            have HWK := Lib.hid hwk
            have HF := Lib.hid hfr
            clear ho6 ho7 hnd hmu hfst hwk hfr
            by_cases hn1 : id = -1
            · subst hn1
              go_wp2_with fail
              go_ret2
              refine ⟨.slice a6 met.length c6, ?_⟩
              rw [← HWK.out, walkN_end]
              exact ⟨rfl, HO6.out, HF.out⟩
            · have hus : usedR s.R id = true := hid.resolve_left hn1
              obtain ⟨h0, h1, -⟩ := usedR_lt hus
              obtain ⟨k, rfl⟩ : ∃ k : Nat, id = k := ⟨id.toNat, by omega⟩
              have hkj : k < j := by have := HN.out; omega
              have hkji : (k : Int) < (j : Int) := by omega
              have hk0 : (0 : Int) ≤ (k : Int) := by omega
              have hni : ((k : Int) != -1) = true := by rw [bne_iff_ne]; omega
              have HUS := Lib.hid hus
              have HUB : Hid (usedB s.R k = true) := Lib.hid (by rw [usedB_nat]; exact hus)
              obtain ⟨m, hmm⟩ : ∃ m, m = decide (k ∈ met) := ⟨_, rfl⟩
              have hc7 := HO7.out.cells (g := g7) rfl k (.bool m) (by rw [mB_get hkj, hmm])
              have hf7 := own_freeS HO7.out (g := g7) rfl k
              rw [addO, Nat.zero_add] at hc7
              have HMM := Lib.hid hmm
              clear hus hid hn1 h0 h1 hmm
              cases m with
              | true =>
                have HKM : Hid (k ∈ met) := Lib.hid (of_decide_eq_true HMM.out.symm)
                have HE0 : Hid ((wr.alloc (.cells #[] 3)).ownsRow w.heap.size 3 1 (.slice (some ⟨wr.heap.size, 0, none⟩) 0 0) 0 []) := Lib.hid (own_base (World.ownsRow_made wr (e := 3) (size := 1) #[] 0 (Nat.le_refl _) (by unfold maxLen; omega) rfl) HF.out.size)
                go_wp2_with fail
                go_ret2
                refine ⟨.slice (some ⟨wr.heap.size, 0, none⟩) 0 0, ?_⟩
                rw [← HWK.out, walkN_met HKM.out]
                exact ⟨rfl, HE0.out, HF.out.alloc _⟩
              | false =>
                have HKM : Hid (k ∉ met) := Lib.hid (of_decide_eq_false HMM.out.symm)
                have HFS : Hid (if met.length = 0 then k = F else k ≠ F) := Lib.hid (by
                  by_cases hm0 : met = []
                  · subst hm0
                    have := HFST.out.1 rfl
                    show if (0 : Nat) = 0 then k = F else k ≠ F
                    rw [if_pos rfl]
                    omega
                  · rw [if_neg (fun e => hm0 (List.eq_nil_of_length_eq_zero e))]
                    intro e
                    exact HKM.out (e ▸ HFST.out.2 hm0))
                go_upto_region 17 with fail
                have hfs : Fr [g7] wr (wr.setCell ⟨g7, k, none⟩ (.bool true)) := (Fr.refl [g7] wr).setCell (by simp) _
                have hg7 := own_lt HO7.out (g := g7) rfl
                have HO7' := Lib.hid (own_set2 HO7.out k (.bool true))
                have HO6' := Lib.hid (own_fr HO6.out hfs (fun g' hg' hm => by
                  simp at hm
                  subst hm
                  exact own_neR HO6.out HO7.out (by decide) hg' rfl))
                have HF5 := Lib.hid (HF.out.next hfs (fun i hi hlt => by simp at hi; have := HF1.out.size; omega))
                rw [mB_set hkj] at HO7'
                obtain ⟨w5, hw5⟩ : ∃ w5, w5 = wr.setCell ⟨g7, k, none⟩ (.bool true) := ⟨_, rfl⟩
                rw [← hw5] at HO7' HO6' HF5 ⊢
                clear hw5 hfs hg7 hc7 hf7 HO6 HO7 HF
                obtain ⟨sb, hsb⟩ : ∃ sb : Nat, sb = if k = F then 1 else 0 := ⟨_, rfl⟩
                have HSB := Lib.hid hsb
                have HSBL : Hid (sb = if met.length = 0 then 1 else 0) := Lib.hid (by
                  have h := HFS.out
                  by_cases hm0 : met.length = 0
                  · rw [if_pos hm0] at h ⊢
                    rw [hsb, if_pos h]
                  · rw [if_neg hm0] at h ⊢
                    rw [hsb, if_neg h])
                clear hsb
                go_upto_if 58 with fail
                go_cut [10] (fun v wx => v = .int .u8 sb ∧ wx = w5)
                case first =>
                  by_cases hm0 : met.length = 0
                  · have hmi : ((met.length : Int) == 0) = true := by rw [hm0]; rfl
                    have HX : Hid (sb = 1) := Lib.hid (by rw [HSBL.out, if_pos hm0])
                    clear hm0
                    go_wp2_with fail
                    go_meet
                    exact ⟨by rw [HX.out]; rfl, rfl⟩
                  · have hmi : ((met.length : Int) == 0) = false := by rw [beq_eq_false_iff_ne]; omega
                    have HX : Hid (sb = 0) := Lib.hid (by rw [HSBL.out, if_neg hm0])
                    clear hm0
                    go_wp2_with fail
                    go_meet
                    exact ⟨by rw [HX.out]; rfl, rfl⟩
                case rest =>
                  obtain ⟨hv, rfl⟩ := hcut
                  subst hv
                  obtain ⟨w5, rfl⟩ : ∃ w5, w5 = wc := ⟨_, rfl⟩
                  obtain ⟨gr, cr, b, c2, r3, -, r1, hc2, hbd, hdl⟩ := (HR.out.keep HF5.out).recU h32 HUB.out
                  rw [← HN.out] at r3
                  have hb0 := bytes_cellN hbd (j := 0) (by omega)
                  rw [← nm_b1 (by omega), show nm (recAt s.R k) 0 1 = pSt (recAt s.R k) from rfl] at hb0
                  obtain ⟨st, hst⟩ : ∃ st, st = pSt (recAt s.R k) := ⟨_, rfl⟩
                  rw [← hst] at hb0
                  have HSN := Lib.hid (Sound9 B bs w5 p s (HR.out.keep HF5.out) h32 k HUB.out)
                  have HGD := Lib.hid (good_doc (R := s.R) (F := F) (k := k) HSB.out)
                  rw [← hst] at HGD
                  clear hst hbd hdl hc2
                  go_upto_region 20 with fail
                  go_cut [76] (fun v wx => v = .bool (!(goodR s.R F k)) ∧ Fr [] w5 wx)
                  case first =>
                    by_cases hs : st = sb
                    · have hsi : ((st : Int) != (sb : Int)) = false := by rw [hs]; simp
                      have HS := Lib.hid hs
                      clear hs
                      go_wp2_with fail
                      refine HSN.out.mono ?_
                      rintro e w6 ⟨rfl, hf6⟩
                      have HF6 := Lib.hid hf6
                      clear hf6
                      go_wp2_with fail
                      go_meet
                      refine ⟨?_, HF6.out⟩
                      rw [HGD.out, beq_iff_eq.2 HS.out]
                      rfl
                    · have hsi : ((st : Int) != (sb : Int)) = true := by rw [bne_iff_ne]; omega
                      have HS := Lib.hid hs
                      clear hs
                      go_wp2_with fail
                      go_meet
                      refine ⟨?_, Fr.refl _ _⟩
                      rw [HGD.out, beq_eq_false_iff_ne.2 HS.out]
                      rfl
                  case rest =>
                    obtain ⟨hv, hfw⟩ := hcut
                    subst hv
                    have HFW := Lib.hid hfw
                    clear hfw r3 r1 hb0
                    cases hg : goodR s.R F k with
                    | false =>
                      have HGB := Lib.hid hg
                      have HE0 : Hid ((wc.alloc (.cells #[] 3)).ownsRow w.heap.size 3 1 (.slice (some ⟨wc.heap.size, 0, none⟩) 0 0) 0 []) := Lib.hid (own_base (World.ownsRow_made wc (e := 3) (size := 1) #[] 0 (Nat.le_refl _) (by unfold maxLen; omega) rfl) (HF5.out.trans HFW.out).size)
                      clear hg
                      go_wp2_with fail
                      go_ret2
                      refine ⟨.slice (some ⟨wc.heap.size, 0, none⟩) 0 0, ?_⟩
                      rw [← HWK.out, show s.R.length + 1 - met.length = (s.R.length - met.length) + 1 by have := HML.out; omega, walkN_bad HKM.out HGB.out]
                      exact ⟨rfl, HE0.out, (HF5.out.trans HFW.out).alloc _⟩
                    | true =>
                      have HGB := Lib.hid hg
                      clear hg
                      have hfx : Fr [] wc (wc.alloc (.cells #[.int .i64 (k : Int)] 3)) := (Fr.refl [] _).alloc _
                      have hnews : ∀ a, some (⟨wc.heap.size, 0, none⟩ : Addr) = some a → ∀ j u, [Value.int .i64 (k : Int)][j]? = some u → (wc.alloc (.cells #[.int .i64 (k : Int)] 3)).cell? (a.add j) = some u := by
                        intro a ha j u hu
                        cases ha
                        have hz := heap_alloc_new wc (.cells #[.int .i64 (k : Int)] 3)
                        rw [addO, Nat.zero_add, cell_of_row _ _ j _ _ _ hz]
                        simpa using hu
                      have HNEWS := Lib.hid hnews
                      have hf5x := HFW.out.trans hfx
                      have HOX := Lib.hid (own_fr HO6'.out hf5x (by simp))
                      have HO7X := Lib.hid (own_fr HO7'.out hf5x (by simp))
                      have HFX := Lib.hid (HF5.out.trans hf5x)
                      have HBW := Lib.hid (show w.heap.size ≤ (wc.alloc (.cells #[.int .i64 (k : Int)] 3)).heap.size from HFX.out.size)
                      clear hnews hfx hf5x
                      go_upto_region 13 with (at_builtin; refine wpList_appS _ rfl _ _ 30 rfl w.heap.size 3 _ 1 8 Tryd.underlying30 infoI rfl (by decide) (.slice a6 met.length c6) met.length (met.map fun (k : Nat) => Value.int .i64 k) rfl HOX.out (some ⟨wc.heap.size, 0, none⟩) 1 1 [.int .i64 k] rfl rfl HNEWS.out (fun h => by cases h) (by simp [Value.oneCell']) (by have := HML.out; have := HN.out; unfold maxLen; omega) (by have := HML.out; have := HN.out; omega) HBW.out ?_; intro v' w6 happ; obtain ⟨a8, c8, e8⟩ := own_slR happ.own; subst e8; have HAPP := Lib.hid happ; clear happ)
                      have hfa := app_frZ HAPP.out
                      have hf7 : Fr [] w w6 := HFX.out.next hfa (fun i hi hlt => by have := (own_lt HOX.out (g := i) (by simpa using hi)).1; omega)
                      obtain ⟨gr', cr', b', c2', r3, -, r1, hc2, hbd, hdl⟩ := (HR.out.keep hf7).recU h32 HUB.out
                      rw [← HN.out] at r3
                      have HN9 := Lib.hid (Next9 b' c2' (recAt s.R k) w6 hdl hc2 hbd)
                      have HF7 := Lib.hid hf7
                      have HO7Y := Lib.hid (own_fr HO7X.out hfa (fun g' hg' hm => own_neR HOX.out HO7X.out (by decide) (by simpa using hm) hg'))
                      obtain ⟨nx, hnx⟩ : ∃ nx, nx = nxtR s.R k := ⟨_, rfl⟩
                      rw [show pNx (recAt s.R k) = nx from hnx.symm] at HN9
                      have HNX := Lib.hid hnx
                      clear hfa hf7 hc2 hbd hdl hnx
                      go_wp2_with fail
                      refine HN9.out.mono ?_
                      rintro e w' ⟨rfl, rfl⟩
                      go_wp2_with fail
                      go_roundw
                      case rel =>
                        have hll : (met ++ [k]).length = met.length + 1 := by simp
                        refine ⟨met ++ [k], nx, rfl, ?_, HO7Y.out, ?_, ?_, ?_, ?_, ?_, HF7.out⟩
                        · rw [hll, List.map_append]
                          exact HAPP.out.own
                        · rw [List.nodup_append]
                          refine ⟨HND.out, by simp, fun i hi j hj e => ?_⟩
                          rw [List.mem_singleton.1 hj] at e
                          exact HKM.out (e ▸ hi)
                        · intro i hi
                          rcases List.mem_append.1 hi with hi | hi
                          · exact HMU.out i hi
                          · rw [List.mem_singleton.1 hi]; exact HUS.out
                        · rw [HNX.out]
                          exact sndR_next (goodR_snd HGB.out)
                        · refine ⟨fun e => absurd e (by simp), fun _ => ?_⟩
                          by_cases hm0 : met = []
                          · have := HFST.out.1 hm0
                            rw [show F = k by omega]
                            exact List.mem_append_right _ (by simp)
                          · exact List.mem_append_left _ (HFST.out.2 hm0)
                        · rw [hll, ← HWK.out, show s.R.length + 1 - met.length = (s.R.length - met.length) + 1 by have := HML.out; omega, walkN_on HKM.out HGB.out, show s.R.length + 1 - (met.length + 1) = s.R.length - met.length by omega, HNX.out]
                      case measure => have := HML.out; have := HN.out; simp [lenV] <;> omega
  · have h32i : ((s.sz : Int) != 32) = true := by rw [bne_iff_ne]; omega
    have HW : Hid (walkE s first = ([], 4)) := Lib.hid (by unfold walkE; rw [if_pos h32])
    rw [HW.out]
    go_enter Tryd.func22, Tryd.ntmps22
    go_upto_region 2 with fail
    rw [← hw1]
    clear hw1
    go_wp2_with fail
    go_ret2
    exact ⟨_, rfl, HI0.out, HF1.out⟩
end Go.Proofs.YtkcipbjikimlfaaDoor

/- The document's blocks: Load, Drop. -/
namespace Go.Proofs.YtkcipbjikimlfaaDoor
open Go.RowKit
attribute [local go_sem ↓] Go.wp_at_zero Go.wp_at_succ
attribute [local go_sem] Oper.semAt_some
theorem walkN_used (R : Recs) (first : Nat) : ∀ (k : Nat) (met : List Nat) (id : Int), (∀ i ∈ met, usedB R i = true) → (id = -1 ∨ usedR R id = true) → ∀ i ∈ (walkN R first k met id).1, usedB R i = true
  | 0, met, id, h, _, i, hi => by
    rw [walkN] at hi
    split at hi
    · exact h i hi
    · exact absurd hi (by simp)
  | k + 1, met, id, h, hid, i, hi => by
    rw [walkN] at hi
    split at hi
    · exact h i hi
    · rename_i hne
      have hu := hid.resolve_left hne
      split at hi
      · exact absurd hi (by simp)
      · split at hi
        · rename_i hg
          refine walkN_used R first k _ _ (fun j hj => ?_) (sndR_next (goodR_snd hg)) i hi
          rcases List.mem_append.1 hj with hj | hj
          · exact h j hj
          · rw [List.mem_singleton.1 hj, usedB_nat]
            rw [show ((id.toNat : Nat) : Int) = id by have := (usedR_lt hu).1; omega]
            exact hu
        · exact absurd hi (by simp)
theorem walkE_used {s : RFS} {first : Int} : ∀ i ∈ (walkE s first).1, usedB s.R i = true := by
  intro i hi
  unfold walkE walkS at hi
  split at hi
  · exact absurd hi (by simp)
  · split at hi
    · rename_i hu
      exact walkN_used s.R _ _ _ _ (fun j hj => absurd hj (by simp)) (.inr hu) i hi
    · exact absurd hi (by simp)
theorem walkE_lenM {s : RFS} {first : Int} (h : s.Ok) : (walkE s first).1.length ≤ 70000 := by
  have hl := h.len
  unfold walkE walkS
  split
  · simp
  · split
    · have := walkN_len s.R first.toNat (s.R.length + 1) [] first
      simp at this
      omega
    · simp
theorem bytes_cellI {w : World} {b j : Nat} {d : List UInt8} (hb : Bytes w (some ⟨b, 0, none⟩) d) (hj : j < d.length) : w.cell? ⟨b, j, none⟩ = some (.int .u8 (I8 (d.getD j 0))) := by
  rw [bytes_cellN hb hj, I8_toN]
set_option maxRecDepth 100000 in
set_option maxHeartbeats 1600000 in
theorem Drop9 (B : Nat) (bs : List Nat) (w : World) (p : Nat) (s : RFS) (first : Int) (h : MF B bs w p s) :
    Calls Tryd.prog 26 #[.pointer (some ⟨p, 0, none⟩), .int .i64 first] w fun e w' => e = .returned (.int .i64 (walkE s first).2) ∧ ∃ bs', MF B bs' w' p (dropS s (walkE s first).1) ∧ Stp bs w bs' w' := by
  have HA := Lib.hid (Walk9 B bs w p s first h)
  have HR := Lib.hid h
  obtain ⟨L, hL⟩ : ∃ L, L = (walkE s first).1 := ⟨_, rfl⟩
  obtain ⟨E, hE⟩ : ∃ E, E = (walkE s first).2 := ⟨_, rfl⟩
  rw [← hL, ← hE] at HA ⊢
  have HLE := Lib.hid (show L.length ≤ 70000 by rw [hL]; exact walkE_lenM h.ok)
  clear h hL hE
  go_enter Tryd.func26, Tryd.ntmps26
  go_wp2_with fail
  refine HA.out.mono ?_
  rintro e w1 ⟨v4, rfl, h4, hf⟩
  obtain ⟨a4, c4, rfl⟩ := own_slR h4
  have H4 := Lib.hid h4
  have HF := Lib.hid hf
  have hl7 := HLE.out
  clear h4 hf
  go_wp2
  go_loopw [7] (fun q wr => ∃ (i : Nat) (bs' : List Nat), i ≤ L.length ∧ q = .int .i64 i ∧ MF B bs' wr p (dropS s (L.take i)) ∧ Stp bs w1 bs' wr) (fun q _ => L.length - (intOf q).toNat)
  case atStart => exact ⟨0, bs, by omega, rfl, HR.out.keep HF.out, Stp.refl _ _⟩
  case round =>
    obtain ⟨i, bs1, hi, rfl, hr, hst⟩ := hrel
    have HT := Lib.hid hr
    have HST := Lib.hid hst
    clear hr hst
    by_cases hlt : i < L.length
    · have hii : (i : Int) < (L.length : Int) := by omega
      have hi0 : (0 : Int) ≤ (i : Int) := by omega
      obtain ⟨g, c, e, hg1, hg2, -⟩ := own_intC H4.out hlt
      simp only [Value.slice.injEq] at e
      obtain ⟨rfl, -, -⟩ := e
      have hgb : g ∉ bs := fun hm => by have := (HR.out.lt _ hm).2; omega
      have H4R := Lib.hid (own_fr H4.out HST.out.1 (fun g' hg' hm => by
        have hgg : g = g' := by simpa [Value.ownBlock] using hg'
        subst hgg
        exact hgb hm))
      obtain ⟨g', c', e', -, -, hc⟩ := own_intC H4R.out hlt
      simp only [Value.slice.injEq, Option.some.injEq, Addr.mk.injEq] at e'
      obtain ⟨⟨rfl, -⟩, -, -⟩ := e'
      obtain ⟨x, hx⟩ : ∃ x, x = L.getD i 0 := ⟨_, rfl⟩
      rw [← hx] at hc
      have HFR := Lib.hid (Free9 B bs1 wr p _ (x : Int) HT.out)
      have HGB := Lib.hid hgb
      have HXX := Lib.hid hx
      clear hg1 hg2 hgb hx
      have e1 : IntKind.i64.wrap ((i : Int) + 1) = (i : Int) + 1 := IntWalk.i64_in _ (by omega)
      go_wp2_with fail
      refine HFR.out.mono ?_
      rintro e w2 ⟨rfl, bs2, h2, s2⟩
      have HR2 := Lib.hid h2
      have HS2 := Lib.hid s2
      clear h2 s2
      go_wp2
      go_roundw
      case rel =>
        refine ⟨i + 1, bs2, by omega, by go_num, ?_, HST.out.trans HS2.out⟩
        rw [take_snocD hlt, dropS_snoc, ← HXX.out]
        exact HR2.out
      case measure => simp [intOf] <;> omega
    · obtain rfl : i = L.length := by omega
      have hii : ¬ (L.length : Int) < (L.length : Int) := by omega
      go_wp2
      go_ret
      refine ⟨rfl, bs1, ?_, Stp.keepL HF.out HST.out⟩
      have := HT.out
      rw [List.take_length] at this
      exact this
theorem flat_take (R : Recs) {L : List Nat} {i : Nat} (h : i < L.length) : (L.take (i + 1)).flatMap (pieceR R) = (L.take i).flatMap (pieceR R) ++ pieceR R (L.getD i 0) := by
  rw [take_snocD h, List.flatMap_append]
  simp
set_option maxRecDepth 100000 in
set_option maxHeartbeats 3200000 in
theorem Load9 (B : Nat) (bs : List Nat) (w : World) (p : Nat) (s : RFS) (first : Int) (h : MF B bs w p s) :
    Calls Tryd.prog 23 #[.pointer (some ⟨p, 0, none⟩), .int .i64 first] w fun e w' => ∃ v, e = .returned (.tuple #[v, .int .i64 (walkE s first).2]) ∧ Got w.heap.size w w' v (loadE s first) := by
  obtain ⟨w1, hw1⟩ : ∃ w1, w1 = w.alloc (.cells #[] 5) := ⟨_, rfl⟩
  have hf1 : Fr [] w w1 := by rw [hw1]; exact (Fr.refl _ _).alloc _
  have HA := Lib.hid (Walk9 B bs w1 p s first (h.keep hf1))
  have HG1 : Hid (Grow [] w w1 (.slice (some ⟨w.heap.size, 0, none⟩) 0 0) []) := Lib.hid (by rw [hw1]; exact ⟨own_empty w 5, by simp, by simp, (Fr.refl _ _).alloc _⟩)
  have HR := Lib.hid h
  unfold loadE
  have HUS : Hid (∀ i ∈ (walkE s first).1, usedB s.R i = true ∧ pUs (recAt s.R i) ≤ 25 ∧ s.sz = 32) := Lib.hid (fun i hi => ⟨walkE_used i hi, sndR_used (walkE_snd i hi), by
    unfold walkE at hi
    split at hi
    · exact absurd hi (by simp)
    · omega⟩)
  have HLE := Lib.hid (walkE_lenM (first := first) h.ok)
  obtain ⟨L, hL⟩ : ∃ L, L = (walkE s first).1 := ⟨_, rfl⟩
  obtain ⟨E, hE⟩ : ∃ E, E = (walkE s first).2 := ⟨_, rfl⟩
  rw [← hL] at HUS HLE
  rw [← hL, ← hE] at HA ⊢
  have HW1 := Lib.hid hf1
  clear h hL hE hf1
  go_enter Tryd.func23, Tryd.ntmps23
  go_upto_region 2 with fail
  rw [← hw1]
  clear hw1
  go_wp2_with fail
  refine HA.out.mono ?_
  rintro e w2 ⟨v7, rfl, h7, hf2⟩
  obtain ⟨a7, c7, rfl⟩ := own_slR h7
  have H7 := Lib.hid (own_base h7 HW1.out.size)
  have HG2 := Lib.hid (HG1.out.fr0 hf2)
  have hl7 := HLE.out
  clear h7 hf2 HG1 HA
  go_wp2_with fail
  go_loopw [6, 9] (fun v q wr => ∃ (i : Nat), i ≤ L.length ∧ q = .int .i64 i ∧ Grow [] w wr v ((L.take i).flatMap (pieceR s.R)) ∧ wr.ownsRow w.heap.size 3 1 (.slice a7 L.length c7) L.length (L.map fun (k : Nat) => Value.int .i64 k)) (fun _ q _ => L.length - (intOf q).toNat)
  case atStart => exact ⟨0, by omega, rfl, HG2.out, H7.out⟩
  case round =>
    clear HG2 H7
    obtain ⟨i, hi, rfl, hgr, ho⟩ := hrel
    have HG := Lib.hid hgr
    have HO := Lib.hid ho
    clear hgr ho
    by_cases hlt : i < L.length
    · have hii : (i : Int) < (L.length : Int) := by omega
      have hi0 : (0 : Int) ≤ (i : Int) := by omega
      obtain ⟨g, c, e, -, -, hc⟩ := own_intC HO.out hlt
      simp only [Value.slice.injEq] at e
      obtain ⟨rfl, -, -⟩ := e
      obtain ⟨x, hx⟩ : ∃ x, x = L.getD i 0 := ⟨_, rfl⟩
      rw [← hx] at hc
      obtain ⟨hub, hpu, h32⟩ := HUS.out x (by rw [hx, List.getD_eq_getElem?_getD, List.getElem?_eq_getElem hlt]; exact List.getElem_mem hlt)
      obtain ⟨gr, cr, b, c2, r3, -, r1, hc2, hbd, hdl⟩ := HR.out.recU h32 hub
      have hxl := usedB_lt hub
      obtain ⟨n, hn⟩ : ∃ n, n = s.R.length := ⟨_, rfl⟩
      rw [← hn] at r3 hxl
      have r3 := HG.out.fr.cell r3 (by simp)
      have r1 := HG.out.fr.cell r1 (by simp)
      have hx0 : (0 : Int) ≤ (x : Int) := by omega
      have hxi : (x : Int) < (n : Int) := by omega
      obtain ⟨d, hd⟩ : ∃ d, d = recAt s.R x := ⟨_, rfl⟩
      rw [← hd] at hbd hdl hpu
      have HBD := Lib.hid hbd
      have HDL := Lib.hid hdl
      have HFT := Lib.hid (flat_take s.R hlt)
      rw [← hx, show pieceR s.R x = (pDa d).take (pUs d) by unfold pieceR; rw [hd]] at HFT
      obtain ⟨U, hU⟩ : ∃ U, U = pUs d := ⟨_, rfl⟩
      rw [← hU] at hpu HFT
      have HU := Lib.hid hU
      have hb1 := bytes_cellN hbd (j := 1) (by omega)
      rw [← nm_b1 (by omega), show nm d 1 1 = U from hU.symm] at hb1
      have HB1 := Lib.hid hb1
      obtain ⟨A0, hA0⟩ : ∃ A0, A0 = (L.take i).flatMap (pieceR s.R) := ⟨_, rfl⟩
      rw [← hA0] at HG HFT
      have HAL : Hid (A0.length ≤ 2000000) := Lib.hid (by
        have := pieces_le s.R (L.take i)
        rw [List.length_take] at this
        rw [hA0]
        omega)
      have HXX := Lib.hid hx
      clear hd hbd hdl hx hn hU hub hxl hc2 hb1 hA0 h32
      go_upto_region 6 with fail
      go_quiet (fail)
      obtain ⟨W, hW⟩ : ∃ W, W = wr.drewN nq := ⟨_, rfl⟩
      rw [← hW]
      have hfW : Fr [] wr W := by rw [hW]; exact (Fr.refl [] wr).drewN nq
      have HGW := Lib.hid (HG.out.fr0 hfW)
      have HOW := Lib.hid (own_fr HO.out hfW (by simp))
      clear hW hfW HG HO hc r3 r1
      go_wp2_with fail
      go_loopw [6, 11] (fun v q wr => ∃ (k : Nat), k ≤ U ∧ q = .int .i64 k ∧ Grow [] w wr v (A0 ++ (pDa d).take k) ∧ wr.ownsRow w.heap.size 3 1 (.slice (some ⟨g, 0, none⟩) L.length c7) L.length (L.map fun (k : Nat) => Value.int .i64 k)) (fun _ q _ => U - (intOf q).toNat)
      case atStart => exact ⟨0, by omega, rfl, by simpa using HGW.out, HOW.out⟩
      case round =>
        clear HGW HOW
        obtain ⟨k, hk, rfl, hgr, ho⟩ := hrel
        have HG := Lib.hid hgr
        have HO := Lib.hid ho
        clear hgr ho
        have d1 := HG.out.fr.cell HB1.out (by simp)
        have e0 : IntKind.i64.wrap (U : Int) = (U : Int) := IntWalk.i64_in _ (by omega)
        by_cases hlk : k < U
        · have hki : (k : Int) < (U : Int) := by omega
          have hk0 : (0 : Int) ≤ (k : Int) := by omega
          obtain ⟨K, hK⟩ : ∃ K, K = 6 + k := ⟨_, rfl⟩
          have e1 : IntKind.i64.wrap (6 + (k : Int)) = (K : Int) := by rw [IntWalk.i64_in _ (by omega)]; omega
          have e2 : IntKind.i64.wrap ((k : Int) + 1) = (k : Int) + 1 := IntWalk.i64_in _ (by omega)
          have hK0 : (0 : Int) ≤ (K : Int) := by omega
          have hK1 : (K : Int) < 31 := by omega
          have d2 := HG.out.fr.cell (bytes_cellI HBD.out (j := K) (by rw [HDL.out]; omega)) (by simp)
          obtain ⟨q, hq⟩ : ∃ q, q = d.getD K 0 := ⟨_, rfl⟩
          rw [← hq] at d2
          have hkp : k < (pDa d).length := by rw [pDa_length HDL.out]; omega
          have HQ : Hid (A0 ++ (pDa d).take (k + 1) = (A0 ++ (pDa d).take k) ++ [q]) := Lib.hid (by
            rw [take_snoc (pDa d) k hkp, List.append_assoc]
            congr 2
            have h1 := pDa_getD d k (by omega)
            rw [List.getElem?_eq_getElem hkp, ← hK] at h1
            rw [hq, List.getD_eq_getElem?_getD, ← h1]
            rfl)
          have HBJ : Hid ((A0 ++ (pDa d).take k).length ≤ 2000100) := Lib.hid (by rw [List.length_append, List.length_take]; have := HAL.out; omega)
          obtain ⟨BJ, hBJ⟩ : ∃ BJ, BJ = A0 ++ (pDa d).take k := ⟨_, rfl⟩
          rw [← hBJ] at HG HQ HBJ
          clear hq hBJ hK hkp
          go_wp2_with (at_builtin; refine wpList_apB _ rfl _ _ 22 rfl w.heap.size 5 Tryd.underlying22 info8 u6 BJ rfl (HG.out.alloc _).own (some ⟨wr.heap.size, 0, none⟩) 1 1 [q] rfl rfl (Bytes.one q rfl) (fun h => by cases h) (by have := HBJ.out; omega) (HG.out.alloc _).size ?_; intro v' w6 happ; have HA := Lib.hid happ; clear happ)
          go_roundw
          case rel =>
            refine ⟨k + 1, by omega, by go_num, by rw [HQ.out]; exact (HG.out.alloc _).app HA.out, ?_⟩
            exact own_fr (own_fr HO.out ((Fr.refl [] wr).alloc _) (by simp)) HA.out.fr (fun g' hg' hm => own_neR (HG.out.alloc _).own (own_fr HO.out ((Fr.refl [] wr).alloc (.cells #[.int .u8 (I8 q)] 5)) (by simp)) (by decide) (by simpa using hm) hg')
          case measure => simp [intOf] <;> omega
        · have hke : k = U := by omega
          have hki : ¬ (k : Int) < (U : Int) := by omega
          have e2 : IntKind.i64.wrap ((i : Int) + 1) = (i : Int) + 1 := IntWalk.i64_in _ (by omega)
          rw [hke, ← HFT.out] at HG
          clear hke
          go_wp2_with fail
          go_roundw
          case rel => exact ⟨i + 1, by omega, by go_num, HG.out, HO.out⟩
          case measure => simp [intOf] <;> omega
    · obtain rfl : i = L.length := by omega
      have hii : ¬ (L.length : Int) < (L.length : Int) := by omega
      rw [List.take_length] at HG
      go_wp2_with fail
      go_ret2
      exact ⟨_, rfl, HG.out.fresh.got⟩
end Go.Proofs.YtkcipbjikimlfaaDoor
