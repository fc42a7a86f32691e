/- Blocks: Store. -/
import Derived.Test.YtkcipbjikimlfaaBkA
namespace Go.Proofs.Ytkcipbjikimlfaa
open Go.RowKit
attribute [local go_sem ↓] Go.wp_at_zero Go.wp_at_succ
/-- a block of numbers -/
def Arr (w : World) (g n : Nat) (f : Nat → Int) : Prop := ∃ cs : Array Value, w.heap[g]? = some (.cells cs 3) ∧ cs.size = n ∧ ∀ j, j < n → cs[j]? = some (.int .i64 (f j))
theorem Arr.cell {w : World} {g n : Nat} {f : Nat → Int} (h : Arr w g n f) {j : Nat} (hj : j < n) : w.cell? ⟨g, j, none⟩ = some (.int .i64 (f j)) ∧ w.frozen? ⟨g, j, none⟩ = false := by
  obtain ⟨cs, h1, -, h3⟩ := h
  exact ⟨by rw [cell_of_row _ _ _ _ _ _ h1]; exact h3 j hj, frozen_of_row _ _ _ _ _ h1⟩
theorem Arr.lt {w : World} {g n : Nat} {f : Nat → Int} (h : Arr w g n f) : g < w.heap.size := by
  obtain ⟨cs, h1, -⟩ := h
  exact (Array.getElem?_eq_some_iff.1 h1).1
theorem Arr.fr {S : List Nat} {w w' : World} {g n : Nat} {f : Nat → Int} (h : Arr w g n f) (hf : Fr S w w') (hg : g ∉ S) : Arr w' g n f := by
  obtain ⟨cs, h1, h2⟩ := h
  exact ⟨cs, hf.obj h1 hg, h2⟩
theorem Arr.keep {w w' : World} {g n : Nat} {f : Nat → Int} (h : Arr w g n f) (hf : Fr [] w w') : Arr w' g n f := h.fr hf (by simp)
theorem Arr.set {w : World} {g n : Nat} {f f' : Nat → Int} (h : Arr w g n f) (k : Nat) (x : Int) (hk : f' k = x) (ho : ∀ j, j < n → j ≠ k → f' j = f j) : Arr (w.setCell ⟨g, k, none⟩ (.int .i64 x)) g n f' := by
  obtain ⟨cs, h1, h2, h3⟩ := h
  refine ⟨_, heap_setCell_same w g k cs _ _ h1, by simp [h2], fun j hj => ?_⟩
  rw [Array.getElem?_setIfInBounds]
  by_cases h4 : k = j
  · subst h4
    rw [if_pos rfl, if_pos (by omega), hk]
  · rw [if_neg h4, h3 j hj, ho j hj (Ne.symm h4)]
theorem Arr.congr {w : World} {g n : Nat} {f f' : Nat → Int} (h : Arr w g n f) (he : ∀ j, j < n → f' j = f j) : Arr w g n f' := by
  obtain ⟨cs, h1, h2, h3⟩ := h
  exact ⟨cs, h1, h2, fun j hj => by rw [he j hj]; exact h3 j hj⟩
theorem infoI : (Try.prog.info? 3).map (fun i => (i.zero, i.size, i.bytes)) = some (some (.int .i64 0), 1, 8) := by kernel_rfl
theorem makeI (n : Nat) (hn : n ≤ 1000000) (w : World) : (Instr.makeSlice 40 (.int .i64 (n : Int)) (.int .i64 (n : Int))).run Try.prog w = .ok (.slice (some ⟨w.heap.size, 0, none⟩) n n) (w.alloc (.cells (Array.replicate n (Value.int .i64 0)) 3)) := by
  obtain ⟨i, hi, hz, hsz, hby⟩ := info_parts infoI
  have h := run_make (P := Try.prog) w 40 3 i (.int .i64 0) Try.underlying40 hi hz .i64 .i64 n n (by omega) (by omega) (by rw [hby]; omega) (by omega)
  rw [h, hsz]
  have e : madeCells (Value.int .i64 0).cells (((n : Int).toNat) * 1) = (Array.replicate n (Value.int .i64 0)) := by
    apply Array.ext'
    apply List.ext_getElem?
    intro q
    by_cases hq : q < n <;> simp [madeCells, Value.cells, Nat.mod_one, List.getElem?_replicate, hq]
  rw [e]
  simp
theorem Arr.made (w : World) (n : Nat) : Arr (w.alloc (.cells (Array.replicate n (Value.int .i64 0)) 3)) w.heap.size n (fun _ => 0) :=
  ⟨_, heap_alloc_new w _, by simp, fun j hj => by simp [hj]⟩
theorem addO (b o n : Nat) : (⟨b, o, none⟩ : Addr).add n = ⟨b, o + n, none⟩ := by
  unfold Addr.add
  by_cases h : n = 0
  · rw [if_pos h, h]; rfl
  · rw [if_neg h]
/-- what Store tells -/
def stE (s : RFS) (n : Nat) : Int := if s.sz ≠ 32 then 4 else if 65536 - liveN s.R < nBlk n then 5 else 0
def stI (s : RFS) (n : Nat) : Nat := if stE s n = 0 then idAt s.R 0 else 0
def stS (s : RFS) (l : List UInt8) : Recs := if stE s l.length = 0 then stR s.R l else s.R
/-- a file of this state but for 'low' -/
structure Like (s t : RFS) (R : Recs) : Prop where
  kd : t.kd = s.kd
  vr : t.vr = s.vr
  sz : t.sz = s.sz
  R : t.R = R
theorem box4_set {w : World} {b k T : Nat} {x y z u v : Value} (h : w.heap[b]? = some (.cells #[x, y, z, u] T)) : (w.setCell ⟨b, k, none⟩ v).heap[b]? = some (.cells (#[x, y, z, u].setIfInBounds k v) T) := heap_setCell_same w b k _ _ _ h
set_option maxRecDepth 100000 in
set_option maxHeartbeats 6400000 in
theorem Store_F (B : Nat) (bs : List Nat) (w : World) (p : Nat) (s : RFS) (a : Option Addr) (c : Nat) (l : List UInt8) (h : RF B bs w p s) (hl : l.length ≤ 140737488351232) (hc : l.length ≤ c) (hno : a = none → c = 0) (hb : Bytes w a l) (hoff : ∀ ad, a = some ad → ad.block ∉ bs) :
    Calls Try.prog 8 #[.pointer (some ⟨p, 0, none⟩), .slice a l.length c] w fun e w' => e = .returned (.tuple #[.int .i64 (stI s l.length : Nat), .int .i64 (stE s l.length)]) ∧ ∃ bs' t, RF B bs' w' p t ∧ Like s t (stS s l) ∧ Stp bs w bs' w' := by
  have HR := Lib.hid h
  have hok := h.ok
  have hhi := hok.hi
  have HB := Lib.hid hb
  have HNO := Lib.hid hno
  have HC := Lib.hid hc
  have HOFF := Lib.hid hoff
  have HSZ := Lib.hid (Size_F B bs w p s h)
  have HLV := Lib.hid (Live_F B bs w p s h)
  have hlv : liveN s.R ≤ 65536 := Nat.le_trans (liveN_le _) hok.len
  clear h hok hb hno hoff
  by_cases h32 : s.sz = 32
  · rw [h32] at HSZ
    obtain ⟨n, hn⟩ : ∃ n, n = nBlk l.length := ⟨_, rfl⟩
    have hn1 : n = max 1 ((l.length + 24) / 25) := hn
    have q1 : IntKind.i64.wrap ((l.length : Int) + 25) = (l.length : Int) + 25 := IntWalk.i64_in _ (by omega)
    have q2 : IntKind.i64.wrap ((l.length : Int) + 25 - 1) = (l.length : Int) + 25 - 1 := IntWalk.i64_in _ (by omega)
    obtain ⟨Q, hQ⟩ : ∃ Q, Q = (l.length + 24) / 25 := ⟨_, rfl⟩
    have q3 : ((l.length : Int) + 25 - 1).tdiv 25 = (Q : Int) := by rw [Int.tdiv_eq_ediv_of_nonneg (by omega)]; omega
    have q4 : IntKind.i64.wrap (Q : Int) = (Q : Int) := IntWalk.i64_in _ (by omega)
    have HQN : Hid ((Q ≤ 1 → n = 1) ∧ (¬ Q ≤ 1 → n = Q)) := Lib.hid (by rw [hn1, ← hQ]; omega)
    clear hQ
    have q6 : IntKind.i64.wrap (65536 - (liveN s.R : Int)) = ((65536 - liveN s.R : Nat) : Int) := by rw [IntWalk.i64_in _ (by omega)]; omega
    have HN := Lib.hid hn
    have HN1 := Lib.hid hn1
    clear hn hn1
    by_cases hf : 65536 - liveN s.R < n
    · have hfi : decide (((65536 - liveN s.R : Nat) : Int) < (n : Int)) = true := decide_eq_true (by omega)
      have HE : Hid (stE s l.length = 5) := Lib.hid (by unfold stE; rw [if_neg (by omega), ← HN.out, if_pos hf])
      go_enter Try.func8, Try.ntmps8
      go_wp2_with fail
      refine HSZ.out.mono ?_
      rintro e w' ⟨rfl, rfl⟩
      go_upto_region 3 with fail
      go_cut [6] (fun v wx => v = .int .i64 n ∧ wx = w)
      case first =>
        by_cases hq : Q ≤ 1
        · have hqi : (Q : Int) ≤ 1 := by omega
          go_wp2_with fail
          go_meet
          exact ⟨by rw [HQN.out.1 hq]; rfl, rfl⟩
        · have hqi : ¬ (Q : Int) ≤ 1 := by omega
          have hqn : ¬ Q ≤ 1 := hq
          go_wp2_with fail
          go_meet
          exact ⟨by rw [HQN.out.2 hq], rfl⟩
      case rest =>
        obtain ⟨rfl, rfl⟩ := hcut
        go_wp2_with fail
        refine HLV.out.mono ?_
        rintro e w' ⟨rfl, rfl⟩
        go_wp2
        go_ret2
        refine ⟨by unfold stI; rw [HE.out]; rfl, bs, s, HR.out, ⟨rfl, rfl, rfl, ?_⟩, Stp.refl _ _⟩
        unfold stS; rw [HE.out]; rfl
    · have hfi : decide (((65536 - liveN s.R : Nat) : Int) < (n : Int)) = false := decide_eq_false (by omega)
      have HE : Hid (stE s l.length = 0) := Lib.hid (by unfold stE; rw [if_neg (by omega), ← HN.out, if_neg hf])
      have hn65 : n ≤ 65536 := by omega
      have hn0 : 0 < n := by have := HN1.out; omega
      have HID : Hid (∀ i, i < n → idAt s.R i < 65536) := Lib.hid fun i hi => by have := idAt_le s.R i; omega
      have hmk := makeI n (by omega) w
      have HFUL := Lib.hid hf
      go_enter Try.func8, Try.ntmps8
      go_wp2_with fail
      refine HSZ.out.mono ?_
      rintro e w' ⟨rfl, rfl⟩
      go_upto_region 3 with fail
      go_cut [6] (fun v wx => v = .int .i64 n ∧ wx = w)
      case first =>
        by_cases hq : Q ≤ 1
        · have hqi : (Q : Int) ≤ 1 := by omega
          go_wp2_with fail
          go_meet
          exact ⟨by rw [HQN.out.1 hq]; rfl, rfl⟩
        · have hqi : ¬ (Q : Int) ≤ 1 := by omega
          have hqn : ¬ Q ≤ 1 := hq
          go_wp2_with fail
          go_meet
          exact ⟨by rw [HQN.out.2 hq], rfl⟩
      case rest =>
        obtain ⟨rfl, rfl⟩ := hcut
        go_wp2_with fail
        refine HLV.out.mono ?_
        rintro e w' ⟨rfl, rfl⟩
        go_wp2_with fail
        obtain ⟨w1, hw1⟩ : ∃ w1, w1 = wc.alloc (.cells (Array.replicate n (Value.int .i64 0)) 3) := ⟨_, rfl⟩
        rw [← hw1]
        obtain ⟨g, hg⟩ : ∃ g, g = wc.heap.size := ⟨_, rfl⟩
        rw [← hg]
        have hf1 : Fr [] wc w1 := by rw [hw1]; exact (Fr.refl _ _).alloc _
        have HA1 : Hid (Arr w1 g n (fun j => if j < 0 then idAt s.R j else 0)) := Lib.hid (by rw [hw1, hg]; exact (Arr.made wc n).congr fun j _ => by rw [if_neg (by omega)])
        have HR1 := Lib.hid (HR.out.keep hf1)
        have HF1 := Lib.hid hf1
        have HG := Lib.hid (show wc.heap.size ≤ g by omega)
        have HGN : Hid (g ∉ bs) := Lib.hid (fun hm => by have := (HR.out.lt _ hm).2; omega)
        clear hw1 hg hf1 hmk q1 q2 q3 q4 q6 hfi HSZ HLV hf
        go_loopw [31] (fun q wr => ∃ (i : Nat) (bs' : List Nat) (t : RFS), i ≤ n ∧ q = .int .i64 i ∧ RF B bs' wr p t ∧ Like s t (taken (zs 31) s.R i) ∧ Stp bs wc bs' wr ∧ Arr wr g n (fun j => if j < i then idAt s.R j else 0) ∧ g ∉ bs') (fun q _ => n - (intOf q).toNat)
        case atStart => exact ⟨0, bs, s, by omega, rfl, HR1.out, ⟨rfl, rfl, rfl, rfl⟩, ⟨HF1.out.mono (by simp), fun i hi => .inl hi⟩, HA1.out, HGN.out⟩
        case round =>
          obtain ⟨i, bs1, t, hi, rfl, hr, hlk, hst, ha, hgb⟩ := hrel
          have HT := Lib.hid hr
          have HLK := Lib.hid hlk
          have HST := Lib.hid hst
          have HAR := Lib.hid ha
          have HGB := Lib.hid hgb
          clear hr hlk hst ha hgb
          by_cases hlt : i < n
          · have hii : (i : Int) < (n : Int) := by omega
            have hi0 : (0 : Int) ≤ (i : Int) := by omega
            have hidl := HID.out i hlt
            have hlow : lowest t.R = idAt s.R i := by rw [HLK.out.R]; exact lowest_taken _ _ _
            have hal : alI t = idAt s.R i ∧ alE t = 0 ∧ alS t = (t.toLow (idAt s.R i)).put (idAt s.R i) (zs 31) := by
              unfold alI alE alS
              rw [hlow, if_neg (by omega), if_neg (by omega), if_neg (by omega), HLK.out.sz, h32]
              exact ⟨rfl, rfl, rfl⟩
            have hAL := Alloc_F B bs1 wr p t HT.out
            rw [hal.1, hal.2.1, hal.2.2] at hAL
            have HAL := Lib.hid hAL
            clear hAL hal hlow
            go_wp2_with fail
            refine HAL.out.mono ?_
            rintro e w2 ⟨rfl, bs2, h2, s2⟩
            have hgb2 : g ∉ bs2 := fun hm => by
              rcases s2.2 _ hm with h | h
              · exact HGB.out h
              · have := HAR.out.lt; omega
            have ha2 := HAR.out.fr s2.1 HGB.out
            obtain ⟨c1, f1⟩ := ha2.cell hlt
            have HR2 := Lib.hid h2
            have HS2 := Lib.hid s2
            have HA2 := Lib.hid ha2
            have HGB2 := Lib.hid hgb2
            clear h2 s2 ha2 hgb2 HAL
            go_wp2
            go_roundw
            case rel =>
              refine ⟨i + 1, bs2, _, by omega, by go_num, HR2.out.fr ((Fr.refl [g] w2).setCell (p := ⟨g, i, none⟩) (by simp) _) (fun k hk hm => by simp at hm; subst hm; exact HGB2.out hk), ⟨HLK.out.kd, HLK.out.vr, HLK.out.sz, ?_⟩, ?_, ?_, HGB2.out⟩
              · show putR t.R (idAt s.R i) (zs 31) = _
                rw [HLK.out.R, taken_succ]
              · have h := HST.out.trans HS2.out
                exact ⟨h.1.next ((Fr.refl [g] w2).setCell (p := ⟨g, i, none⟩) (by simp) _) (fun k hk hlt => by simp at hk; have := HG.out; omega), h.2⟩
              · exact HA2.out.set i _ (by rw [if_pos (by omega)]) fun j hj hne => by
                  by_cases h : j < i
                  · rw [if_pos h, if_pos (by omega)]
                  · rw [if_neg h, if_neg (by omega)]
            case measure => simp [intOf] <;> omega
          · obtain rfl : n = i := by omega
            have hii : ¬ (n : Int) < (n : Int) := by omega
            have HAN : Hid (Arr wr g n (fun j => (idAt s.R j : Nat))) := Lib.hid (HAR.out.congr fun j hj => by rw [if_pos hj])
            go_wp2_with fail
            have HBY : Hid (∀ (W : World) (bs' : List Nat), Stp bs wc bs' W → Bytes W a l) := Lib.hid fun W bs' hs => HB.out.fr hs.1 (.inr fun ad e hm => HOFF.out ad e hm)
            clear hlt hii hi
            go_loopw [45] (fun q wr => ∃ (i : Nat) (bs' : List Nat) (t : RFS), i ≤ n ∧ q = .int .i64 i ∧ RF B bs' wr p t ∧ Like s t (storeR (taken (zs 31) s.R n) (putL s.R l n i)) ∧ Stp bs wc bs' wr ∧ Arr wr g n (fun j => (idAt s.R j : Nat)) ∧ g ∉ bs') (fun q _ => n - (intOf q).toNat)
            case atStart => exact ⟨0, bs1, t, by omega, rfl, HT.out, HLK.out, HST.out, HAN.out, HGB.out⟩
            case round =>
              clear HT HLK HST HAR HAN HGB
              obtain ⟨i, bs1, t, hi, rfl, hr, hlk, hst, ha, hgb⟩ := hrel
              have HT := Lib.hid hr
              have HLK := Lib.hid hlk
              have HST := Lib.hid hst
              have HAR := Lib.hid ha
              have HGB := Lib.hid hgb
              have HB2 := Lib.hid (HBY.out _ _ hst)
              clear hr hlk hst ha hgb
              by_cases hlt : i < n
              · obtain ⟨c1, -⟩ := HAR.out.cell hlt
                have hi0 : (0 : Int) ≤ (i : Int) := by omega
                have hii : (i : Int) < (n : Int) := by omega
                have hidl := HID.out i hlt
                obtain ⟨I, hI⟩ : ∃ I, I = idAt s.R i := ⟨_, rfl⟩
                rw [← hI] at c1 hidl
                have HI := Lib.hid hI
                obtain ⟨P, hP⟩ : ∃ P, P = 25 * i := ⟨_, rfl⟩
                have hPl : P ≤ l.length := by have := HN1.out; omega
                have HP := Lib.hid hP
                have e1 : IntKind.i64.wrap ((i : Int) * 25) = (P : Int) := by rw [IntWalk.i64_in _ (by omega)]; omega
                have e2 : IntKind.i64.wrap ((i : Int) + 1) = (i : Int) + 1 := IntWalk.i64_in _ (by omega)
                have e3 : IntKind.i64.wrap (((i : Int) + 1) * 25) = (P : Int) + 25 := by rw [IntWalk.i64_in _ (by omega)]; omega
                obtain ⟨D, hD⟩ : ∃ D, D = partI l i := ⟨_, rfl⟩
                have hDl : D.length = min 25 (l.length - P) := by rw [hD, partI_length, hP]
                have HD := Lib.hid hD
                have HDL := Lib.hid hDl
                have HDB : Hid (∀ b o, a = some ⟨b, o, none⟩ → Bytes wr (some ⟨b, o + P, none⟩) D) := Lib.hid fun b o e => by
                  have h := (e ▸ HB2.out).sub P D.length (by omega)
                  rw [show (l.drop P).take D.length = D by
                    rw [hD]
                    unfold partI
                    rw [← hP, List.length_take, List.take_eq_take_iff]
                    simp] at h
                  exact h
                clear hI hP hD hDl
                go_upto_region 15 with fail
                go_cut [11] (fun v wx => wx = wr ∧ ∃ pa pc, v = .slice pa D.length pc ∧ (pa = none → pc = 0) ∧ Bytes wr pa D)
                case first =>
                  have p0 : (0 : Int) ≤ (P : Int) := by omega
                  have p1 : ((P : Int) + 25).toNat - P = 25 := by omega
                  by_cases hm : l.length ≤ P + 25
                  · have hmi : (l.length : Int) ≤ (P : Int) + 25 := by omega
                    have p2 : (P : Int) ≤ (l.length : Int) := by omega
                    have p3 : (l.length : Int) ≤ (c : Int) := by omega
                    have p4 : l.length - P = D.length := by have := HDL.out; omega
                    cases a with
                    | none =>
                      have hl0 : l = [] := by
                        rcases HB2.out with h | ⟨_, _, h, _⟩
                        · exact h
                        · cases h
                      have hP0 : P = 0 := by rw [hl0] at hPl; simpa using hPl
                      have hc0 : c = 0 := HNO.out rfl
                      have hD0 : D.length = 0 := by have := HDL.out; rw [hl0] at this; simp at this; omega
                      subst hc0 hl0 hP0
                      go_wp2_with fail
                      go_meet
                      refine ⟨rfl, none, 0, by rw [hD0], fun _ => rfl, .inl (List.eq_nil_of_length_eq_zero hD0)⟩
                    | some ad =>
                      obtain ⟨b, o, hab⟩ : ∃ b o, D = [] ∨ ad = ⟨b, o, none⟩ := by
                        rcases HB2.out with h | ⟨b, o, h, _⟩
                        · exact ⟨0, 0, .inl (List.eq_nil_of_length_eq_zero (by have := HDL.out; rw [h] at this; simpa using this))⟩
                        · exact ⟨b, o, .inr (Option.some.inj h)⟩
                      by_cases hcP : c = P
                      · have hD0 : D.length = 0 := by omega
                        have hcPi : ((c : Int) == (P : Int)) = true := by rw [beq_iff_eq]; omega
                        go_wp2_with fail
                        go_meet
                        exact ⟨rfl, some ad, 0, by rw [hD0], fun h => (by cases h), .inl (List.eq_nil_of_length_eq_zero hD0)⟩
                      · have hcPi : ((c : Int) == (P : Int)) = false := by rw [beq_eq_false_iff_ne]; omega
                        go_wp2_with fail
                        go_meet
                        refine ⟨rfl, _, _, rfl, fun h => (by cases h), ?_⟩
                        rcases hab with h | h
                        · exact .inl h
                        · subst h; rw [addO]; exact HDB.out b o rfl
                  · have hmi : ¬ (l.length : Int) ≤ (P : Int) + 25 := by omega
                    have p2 : (P : Int) ≤ (P : Int) + 25 := by omega
                    have p3 : (P : Int) + 25 ≤ (c : Int) := by omega
                    have p4 : D.length = 25 := by have := HDL.out; omega
                    cases a with
                    | none =>
                      exfalso
                      have hc0 : c = 0 := HNO.out rfl
                      omega
                    | some ad =>
                      obtain ⟨b, o, hab⟩ : ∃ b o, ad = ⟨b, o, none⟩ := by
                        rcases HB2.out with h | ⟨b, o, h, _⟩
                        · exfalso; rw [h] at hm; simp at hm
                        · exact ⟨b, o, Option.some.inj h⟩
                      subst hab
                      have hcP : ¬ c = P := by omega
                      go_wp2_with fail
                      go_meet
                      exact ⟨rfl, some ⟨b, o + P, none⟩, c - P, by rw [p4], fun h => (by cases h), HDB.out b o rfl⟩
                case rest =>
                  obtain ⟨hwx, pa, pc, rfl, hpn, hpb⟩ := hcut
                  have hwx' := hwx.symm
                  subst hwx'
                  have HPN := Lib.hid hpn
                  have HPB := Lib.hid hpb
                  clear hpn hpb e1 e2 e3 HDB
                  by_cases hz : i = 0
                  · subst hz
                    have e2 : IntKind.i64.wrap ((0 : Int) + 1) = 1 := by decide
                    by_cases hx : 0 + 1 < n
                    · have hxi : (1 : Int) < (n : Int) := by omega
                      have c2 : ∀ cs T, (wr.alloc (.cells cs T)).cell? ⟨g, 1, none⟩ = some (.int .i64 (idAt s.R 1 : Nat)) := fun cs T => ((HAR.out.keep ((Fr.refl [] wr).alloc _)).cell hx).1
                      go_wp2_with fail
                      have hrec : blkB 1 D.length (((idAt s.R 1 : Nat) : Int) + 1).toNat D = recI s.R l n 0 := by
                        unfold recI
                        rw [if_pos rfl, if_pos hx, ← HD.out]
                        rw [show (((idAt s.R 1 : Nat) : Int) + 1).toNat = idAt s.R 1 + 1 by omega]
                      refine (blkBytes 1 D.length (idAt s.R 1 : Nat) pa pc D _ (by omega) (by have := HDL.out; omega) (by omega) (by have := HID.out 1 hx; omega) (by have := HDL.out; omega) HPN.out (HPB.out.keep ((Fr.refl [] wr).alloc _))).mono ?_
                      rintro e w3 ⟨v, rfl, hfr⟩
                      rw [hrec] at hfr
                      obtain ⟨g3, c3, rfl, -, -, hb3, hf3⟩ := hfr.bytes
                      have HF3 := Lib.hid (((Fr.refl [] wr).alloc _).trans hf3)
                      have hpe : putE t (I : Int) (recI s.R l n 0).length = 0 := putE_ok (by omega) (by rw [recI_length, HLK.out.sz, h32])
                      have hps : putS t (I : Int) (recI s.R l n 0) = t.put I (recI s.R l n 0) := by unfold putS; rw [if_pos hpe]; rfl
                      have hPUT := Put_F B bs1 w3 p t (I : Int) (some ⟨g3, 0, none⟩) c3 _ (HT.out.keep HF3.out) (by rw [recI_length]; omega) (fun h => by cases h) hb3
                      rw [hpe, hps] at hPUT
                      have HPUT := Lib.hid hPUT
                      clear hPUT hpe hps hb3 hf3 hfr hrec
                      go_wp2_with fail
                      refine HPUT.out.mono ?_
                      rintro e w4 ⟨rfl, bs4, h4, s4⟩
                      have HR4 := Lib.hid h4
                      have HS4 := Lib.hid s4
                      clear h4 s4
                      go_wp2
                      go_roundw
                      case rel =>
                        refine ⟨0 + 1, bs4, _, by omega, by go_num, HR4.out, ⟨HLK.out.kd, HLK.out.vr, HLK.out.sz, ?_⟩, (HST.out.keepR HF3.out).trans HS4.out, (HAR.out.keep HF3.out).fr HS4.out.1 HGB.out, fun hm => ?_⟩
                        · show putR t.R I (recI s.R l n 0) = _
                          rw [HLK.out.R, putL_succ, storeR_snoc, HI.out]
                        · rcases HS4.out.2 _ hm with h | h
                          · exact HGB.out h
                          · have := HAR.out.lt; have := HF3.out.size; omega
                      case measure => simp [intOf] <;> omega
                    · have hxi : ¬ (1 : Int) < (n : Int) := by omega
                      go_wp2_with fail
                      have hrec : blkB 1 D.length (((-1) : Int) + 1).toNat D = recI s.R l n 0 := by
                        unfold recI
                        rw [if_pos rfl, if_neg hx, ← HD.out]
                        rfl
                      refine (blkBytes 1 D.length (-1) pa pc D _ (by omega) (by have := HDL.out; omega) (by omega) (by omega) (by have := HDL.out; omega) HPN.out (HPB.out.keep ((Fr.refl [] wr).alloc _))).mono ?_
                      rintro e w3 ⟨v, rfl, hfr⟩
                      rw [hrec] at hfr
                      obtain ⟨g3, c3, rfl, -, -, hb3, hf3⟩ := hfr.bytes
                      have HF3 := Lib.hid (((Fr.refl [] wr).alloc _).trans hf3)
                      have hpe : putE t (I : Int) (recI s.R l n 0).length = 0 := putE_ok (by omega) (by rw [recI_length, HLK.out.sz, h32])
                      have hps : putS t (I : Int) (recI s.R l n 0) = t.put I (recI s.R l n 0) := by unfold putS; rw [if_pos hpe]; rfl
                      have hPUT := Put_F B bs1 w3 p t (I : Int) (some ⟨g3, 0, none⟩) c3 _ (HT.out.keep HF3.out) (by rw [recI_length]; omega) (fun h => by cases h) hb3
                      rw [hpe, hps] at hPUT
                      have HPUT := Lib.hid hPUT
                      clear hPUT hpe hps hb3 hf3 hfr hrec
                      go_wp2_with fail
                      refine HPUT.out.mono ?_
                      rintro e w4 ⟨rfl, bs4, h4, s4⟩
                      have HR4 := Lib.hid h4
                      have HS4 := Lib.hid s4
                      clear h4 s4
                      go_wp2
                      go_roundw
                      case rel =>
                        refine ⟨0 + 1, bs4, _, by omega, by go_num, HR4.out, ⟨HLK.out.kd, HLK.out.vr, HLK.out.sz, ?_⟩, (HST.out.keepR HF3.out).trans HS4.out, (HAR.out.keep HF3.out).fr HS4.out.1 HGB.out, fun hm => ?_⟩
                        · show putR t.R I (recI s.R l n 0) = _
                          rw [HLK.out.R, putL_succ, storeR_snoc, HI.out]
                        · rcases HS4.out.2 _ hm with h | h
                          · exact HGB.out h
                          · have := HAR.out.lt; have := HF3.out.size; omega
                      case measure => simp [intOf] <;> omega
                  · have e2 : IntKind.i64.wrap ((i : Int) + 1) = (i : Int) + 1 := IntWalk.i64_in _ (by omega)
                    have hzi : ((i : Int) == 0) = false := by rw [beq_eq_false_iff_ne]; omega
                    have HZ := Lib.hid hz
                    by_cases hx : i + 1 < n
                    · have hxi : (i : Int) + 1 < (n : Int) := by omega
                      have c2 : ∀ cs T, (wr.alloc (.cells cs T)).cell? ⟨g, i + 1, none⟩ = some (.int .i64 (idAt s.R (i + 1) : Nat)) := fun cs T => ((HAR.out.keep ((Fr.refl [] wr).alloc _)).cell hx).1
                      go_wp2_with fail
                      have hrec : blkB 0 D.length (((idAt s.R (i + 1) : Nat) : Int) + 1).toNat D = recI s.R l n i := by
                        unfold recI
                        rw [if_neg HZ.out, if_pos hx, ← HD.out]
                        rw [show (((idAt s.R (i + 1) : Nat) : Int) + 1).toNat = idAt s.R (i + 1) + 1 by omega]
                      refine (blkBytes 0 D.length (idAt s.R (i + 1) : Nat) pa pc D _ (by omega) (by have := HDL.out; omega) (by omega) (by have := HID.out (i + 1) hx; omega) (by have := HDL.out; omega) HPN.out (HPB.out.keep ((Fr.refl [] wr).alloc _))).mono ?_
                      rintro e w3 ⟨v, rfl, hfr⟩
                      rw [hrec] at hfr
                      obtain ⟨g3, c3, rfl, -, -, hb3, hf3⟩ := hfr.bytes
                      have HF3 := Lib.hid (((Fr.refl [] wr).alloc _).trans hf3)
                      have hpe : putE t (I : Int) (recI s.R l n i).length = 0 := putE_ok (by omega) (by rw [recI_length, HLK.out.sz, h32])
                      have hps : putS t (I : Int) (recI s.R l n i) = t.put I (recI s.R l n i) := by unfold putS; rw [if_pos hpe]; rfl
                      have hPUT := Put_F B bs1 w3 p t (I : Int) (some ⟨g3, 0, none⟩) c3 _ (HT.out.keep HF3.out) (by rw [recI_length]; omega) (fun h => by cases h) hb3
                      rw [hpe, hps] at hPUT
                      have HPUT := Lib.hid hPUT
                      clear hPUT hpe hps hb3 hf3 hfr hrec
                      go_wp2_with fail
                      refine HPUT.out.mono ?_
                      rintro e w4 ⟨rfl, bs4, h4, s4⟩
                      have HR4 := Lib.hid h4
                      have HS4 := Lib.hid s4
                      clear h4 s4
                      go_wp2
                      go_roundw
                      case rel =>
                        refine ⟨i + 1, bs4, _, by omega, by go_num, HR4.out, ⟨HLK.out.kd, HLK.out.vr, HLK.out.sz, ?_⟩, (HST.out.keepR HF3.out).trans HS4.out, (HAR.out.keep HF3.out).fr HS4.out.1 HGB.out, fun hm => ?_⟩
                        · show putR t.R I (recI s.R l n i) = _
                          rw [HLK.out.R, putL_succ, storeR_snoc, HI.out]
                        · rcases HS4.out.2 _ hm with h | h
                          · exact HGB.out h
                          · have := HAR.out.lt; have := HF3.out.size; omega
                      case measure => simp [intOf] <;> omega
                    · have hxi : ¬ (i : Int) + 1 < (n : Int) := by omega
                      go_wp2_with fail
                      have hrec : blkB 0 D.length (((-1) : Int) + 1).toNat D = recI s.R l n i := by
                        unfold recI
                        rw [if_neg HZ.out, if_neg hx, ← HD.out]
                        rfl
                      refine (blkBytes 0 D.length (-1) pa pc D _ (by omega) (by have := HDL.out; omega) (by omega) (by omega) (by have := HDL.out; omega) HPN.out (HPB.out.keep ((Fr.refl [] wr).alloc _))).mono ?_
                      rintro e w3 ⟨v, rfl, hfr⟩
                      rw [hrec] at hfr
                      obtain ⟨g3, c3, rfl, -, -, hb3, hf3⟩ := hfr.bytes
                      have HF3 := Lib.hid (((Fr.refl [] wr).alloc _).trans hf3)
                      have hpe : putE t (I : Int) (recI s.R l n i).length = 0 := putE_ok (by omega) (by rw [recI_length, HLK.out.sz, h32])
                      have hps : putS t (I : Int) (recI s.R l n i) = t.put I (recI s.R l n i) := by unfold putS; rw [if_pos hpe]; rfl
                      have hPUT := Put_F B bs1 w3 p t (I : Int) (some ⟨g3, 0, none⟩) c3 _ (HT.out.keep HF3.out) (by rw [recI_length]; omega) (fun h => by cases h) hb3
                      rw [hpe, hps] at hPUT
                      have HPUT := Lib.hid hPUT
                      clear hPUT hpe hps hb3 hf3 hfr hrec
                      go_wp2_with fail
                      refine HPUT.out.mono ?_
                      rintro e w4 ⟨rfl, bs4, h4, s4⟩
                      have HR4 := Lib.hid h4
                      have HS4 := Lib.hid s4
                      clear h4 s4
                      go_wp2
                      go_roundw
                      case rel =>
                        refine ⟨i + 1, bs4, _, by omega, by go_num, HR4.out, ⟨HLK.out.kd, HLK.out.vr, HLK.out.sz, ?_⟩, (HST.out.keepR HF3.out).trans HS4.out, (HAR.out.keep HF3.out).fr HS4.out.1 HGB.out, fun hm => ?_⟩
                        · show putR t.R I (recI s.R l n i) = _
                          rw [HLK.out.R, putL_succ, storeR_snoc, HI.out]
                        · rcases HS4.out.2 _ hm with h | h
                          · exact HGB.out h
                          · have := HAR.out.lt; have := HF3.out.size; omega
                      case measure => simp [intOf] <;> omega
              · obtain rfl : n = i := by omega
                have hii : ¬ (n : Int) < (n : Int) := by omega
                obtain ⟨c1, -⟩ := HAR.out.cell hn0
                go_wp2
                go_ret2
                refine ⟨?_, bs1, t, HT.out, ?_, HST.out⟩
                · unfold stI; rw [HE.out, if_pos rfl]; rfl
                · have h := HLK.out
                  refine ⟨h.kd, h.vr, h.sz, ?_⟩
                  rw [h.R]
                  unfold stS
                  rw [HE.out, if_pos rfl, HN.out, stR_taken]
  · have h32i : ((s.sz : Int) != 32) = true := by rw [bne_iff_ne]; omega
    have HE : Hid (stE s l.length = 4) := Lib.hid (by unfold stE; rw [if_pos h32])
    go_enter Try.func8, Try.ntmps8
    go_wp2_with fail
    refine HSZ.out.mono ?_
    rintro e w' ⟨rfl, rfl⟩
    go_wp2
    go_ret2
    refine ⟨by unfold stI; rw [HE.out]; rfl, bs, s, HR.out, ⟨rfl, rfl, rfl, ?_⟩, Stp.refl _ _⟩
    unfold stS; rw [HE.out]; rfl
end Go.Proofs.Ytkcipbjikimlfaa
