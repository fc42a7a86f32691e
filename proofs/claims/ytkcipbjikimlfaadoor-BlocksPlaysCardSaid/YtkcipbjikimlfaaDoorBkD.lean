/- Blocks: Store. -/
import Derived.Test.YtkcipbjikimlfaaDoorBkA
import Derived.Test.YtkcipbjikimlfaaDoorRfE
import Derived.Maps.Own
import Derived.Maps.OwnSet
import Derived.Maps.Views
import Derived.Deep.RegionLaw
namespace Go.Proofs.YtkcipbjikimlfaaDoor
open Go.RowKit
attribute [local go_sem ↓] Go.wp_at_zero Go.wp_at_succ
/-- a block of numbers -/
def Arr (w : World) (g n : Nat) (f : Nat → Int) : Prop := ∃ cs : Array Value, w.heap[g]? = some (.cells cs 3) ∧ cs.size = n ∧ ∀ j, j < n → cs[j]? = some (.int .i64 (f j))
theorem Arr.cell {w : World} {g n : Nat} {f : Nat → Int} (h : Arr w g n f) {j : Nat} (hj : j < n) : w.cell? ⟨g, j, none⟩ = some (.int .i64 (f j)) ∧ w.frozen? ⟨g, j, none⟩ = false := by
  obtain ⟨cs, h1, -, h3⟩ := h
  exact ⟨by rw [cell_of_row _ _ _ _ _ _ h1]; exact h3 j hj, frozen_of_row _ _ _ _ _ h1⟩
theorem Arr.lt {w : World} {g n : Nat} {f : Nat → Int} (h : Arr w g n f) : g < w.heap.size := by
  obtain ⟨cs, h1, -⟩ := h
  exact (Array.getElem?_eq_some_iff.1 h1).1
theorem Arr.fr {S : List Nat} {w w' : World} {g n : Nat} {f : Nat → Int} (h : Arr w g n f) (hf : Fr S w w') (hg : g ∉ S) : Arr w' g n f := by
  obtain ⟨cs, h1, h2⟩ := h
  exact ⟨cs, hf.obj h1 hg, h2⟩
theorem Arr.keep {w w' : World} {g n : Nat} {f : Nat → Int} (h : Arr w g n f) (hf : Fr [] w w') : Arr w' g n f := h.fr hf (by simp)
theorem Arr.set {w : World} {g n : Nat} {f f' : Nat → Int} (h : Arr w g n f) (k : Nat) (x : Int) (hk : f' k = x) (ho : ∀ j, j < n → j ≠ k → f' j = f j) : Arr (w.setCell ⟨g, k, none⟩ (.int .i64 x)) g n f' := by
  obtain ⟨cs, h1, h2, h3⟩ := h
  refine ⟨_, heap_setCell_same w g k cs _ _ h1, by simp [h2], fun j hj => ?_⟩
  rw [Array.getElem?_setIfInBounds]
  by_cases h4 : k = j
  · subst h4
    rw [if_pos rfl, if_pos (by omega), hk]
  · rw [if_neg h4, h3 j hj, ho j hj (Ne.symm h4)]
theorem Arr.congr {w : World} {g n : Nat} {f f' : Nat → Int} (h : Arr w g n f) (he : ∀ j, j < n → f' j = f j) : Arr w g n f' := by
  obtain ⟨cs, h1, h2, h3⟩ := h
  exact ⟨cs, h1, h2, fun j hj => by rw [he j hj]; exact h3 j hj⟩
theorem infoI : (Tryd.prog.info? 3).map (fun i => (i.zero, i.size, i.bytes)) = some (some (.int .i64 0), 1, 8) := by kernel_rfl
theorem makeI (n : Nat) (hn : n ≤ 1000000) (w : World) : (Instr.makeSlice 30 (.int .i64 (n : Int)) (.int .i64 (n : Int))).run Tryd.prog w = .ok (.slice (some ⟨w.heap.size, 0, none⟩) n n) (w.alloc (.cells (Array.replicate n (Value.int .i64 0)) 3)) := by
  obtain ⟨i, hi, hz, hsz, hby⟩ := info_parts infoI
  have h := run_make (P := Tryd.prog) w 30 3 i (.int .i64 0) Tryd.underlying30 hi hz .i64 .i64 n n (by omega) (by omega) (by rw [hby]; omega) (by omega)
  rw [h, hsz]
  have e : madeCells (Value.int .i64 0).cells (((n : Int).toNat) * 1) = (Array.replicate n (Value.int .i64 0)) := by
    apply Array.ext'
    apply List.ext_getElem?
    intro q
    by_cases hq : q < n <;> simp [madeCells, Value.cells, Nat.mod_one, List.getElem?_replicate, hq]
  rw [e]
  simp
theorem Arr.made (w : World) (n : Nat) : Arr (w.alloc (.cells (Array.replicate n (Value.int .i64 0)) 3)) w.heap.size n (fun _ => 0) :=
  ⟨_, heap_alloc_new w _, by simp, fun j hj => by simp [hj]⟩
theorem addO (b o n : Nat) : (⟨b, o, none⟩ : Addr).add n = ⟨b, o + n, none⟩ := by
  unfold Addr.add
  by_cases h : n = 0
  · rw [if_pos h, h]; rfl
  · rw [if_neg h]
/-- what Store tells -/
def stE (s : RFS) (n : Nat) : Int := if s.sz ≠ 32 then 4 else if 65536 - liveN s.R < nBlk n then 5 else 0
def stI (s : RFS) (n : Nat) : Nat := if stE s n = 0 then idAt s.R 0 else 0
def stS (s : RFS) (l : List UInt8) : Recs := if stE s l.length = 0 then stR s.R l else s.R
/-- a file of this state but for 'low' -/
structure Like (s t : RFS) (R : Recs) : Prop where
  kd : t.kd = s.kd
  vr : t.vr = s.vr
  sz : t.sz = s.sz
  R : t.R = R
theorem box4_set {w : World} {b k T : Nat} {x y z u v : Value} (h : w.heap[b]? = some (.cells #[x, y, z, u] T)) : (w.setCell ⟨b, k, none⟩ v).heap[b]? = some (.cells (#[x, y, z, u].setIfInBounds k v) T) := heap_setCell_same w b k _ _ _ h
set_option maxRecDepth 100000 in
set_option maxHeartbeats 6400000 in
theorem Store_F (B : Nat) (bs : List Nat) (w : World) (p : Nat) (s : RFS) (a : Option Addr) (c : Nat) (l : List UInt8) (h : RF B bs w p s) (hl : l.length ≤ 140737488351232) (hc : l.length ≤ c) (hno : a = none → c = 0) (hb : Bytes w a l) (hoff : ∀ ad, a = some ad → ad.block ∉ bs) :
    Calls Tryd.prog 15 #[.pointer (some ⟨p, 0, none⟩), .slice a l.length c] w fun e w' => e = .returned (.tuple #[.int .i64 (stI s l.length : Nat), .int .i64 (stE s l.length)]) ∧ ∃ bs' t, RF B bs' w' p t ∧ Like s t (stS s l) ∧ Stp bs w bs' w' := by
  have HR := Lib.hid h
  have hok := h.ok
  have hhi := hok.hi
  have HB := Lib.hid hb
  have HNO := Lib.hid hno
  have HC := Lib.hid hc
  have HOFF := Lib.hid hoff
  have HSZ := Lib.hid (Size_F B bs w p s h)
  have HLV := Lib.hid (Live_F B bs w p s h)
  have hlv : liveN s.R ≤ 65536 := Nat.le_trans (liveN_le _) hok.len
  clear h hok hb hno hoff
  by_cases h32 : s.sz = 32
  · rw [h32] at HSZ
    obtain ⟨n, hn⟩ : ∃ n, n = nBlk l.length := ⟨_, rfl⟩
    have hn1 : n = max 1 ((l.length + 24) / 25) := hn
    have q1 : IntKind.i64.wrap ((l.length : Int) + 25) = (l.length : Int) + 25 := IntWalk.i64_in _ (by omega)
    have q2 : IntKind.i64.wrap ((l.length : Int) + 25 - 1) = (l.length : Int) + 25 - 1 := IntWalk.i64_in _ (by omega)
    obtain ⟨Q, hQ⟩ : ∃ Q, Q = (l.length + 24) / 25 := ⟨_, rfl⟩
    have q3 : ((l.length : Int) + 25 - 1).tdiv 25 = (Q : Int) := by rw [Int.tdiv_eq_ediv_of_nonneg (by omega)]; omega
    have q4 : IntKind.i64.wrap (Q : Int) = (Q : Int) := IntWalk.i64_in _ (by omega)
    have HQN : Hid ((Q ≤ 1 → n = 1) ∧ (¬ Q ≤ 1 → n = Q)) := Lib.hid (by rw [hn1, ← hQ]; omega)
    clear hQ
    have q6 : IntKind.i64.wrap (65536 - (liveN s.R : Int)) = ((65536 - liveN s.R : Nat) : Int) := by rw [IntWalk.i64_in _ (by omega)]; omega
    have HN := Lib.hid hn
    have HN1 := Lib.hid hn1
    clear hn hn1
    by_cases hf : 65536 - liveN s.R < n
    · have hfi : decide (((65536 - liveN s.R : Nat) : Int) < (n : Int)) = true := decide_eq_true (by omega)
      have HE : Hid (stE s l.length = 5) := Lib.hid (by unfold stE; rw [if_neg (by omega), ← HN.out, if_pos hf])
      go_enter Tryd.func15, Tryd.ntmps15
      go_wp2_with fail
      refine HSZ.out.mono ?_
      rintro e w' ⟨rfl, rfl⟩
      go_upto_region 3 with fail
      go_cut [6] (fun v wx => v = .int .i64 n ∧ wx = w)
      case first =>
        by_cases hq : Q ≤ 1
        · have hqi : (Q : Int) ≤ 1 := by omega
          go_wp2_with fail
          go_meet
          exact ⟨by rw [HQN.out.1 hq]; rfl, rfl⟩
        · have hqi : ¬ (Q : Int) ≤ 1 := by omega
          have hqn : ¬ Q ≤ 1 := hq
          go_wp2_with fail
          go_meet
          exact ⟨by rw [HQN.out.2 hq], rfl⟩
      case rest =>
        obtain ⟨rfl, rfl⟩ := hcut
        go_wp2_with fail
        refine HLV.out.mono ?_
        rintro e w' ⟨rfl, rfl⟩
        go_wp2
        go_ret2
        refine ⟨by unfold stI; rw [HE.out]; rfl, bs, s, HR.out, ⟨rfl, rfl, rfl, ?_⟩, Stp.refl _ _⟩
        unfold stS; rw [HE.out]; rfl
    · have hfi : decide (((65536 - liveN s.R : Nat) : Int) < (n : Int)) = false := decide_eq_false (by omega)
      have HE : Hid (stE s l.length = 0) := Lib.hid (by unfold stE; rw [if_neg (by omega), ← HN.out, if_neg hf])
      have hn65 : n ≤ 65536 := by omega
      have hn0 : 0 < n := by have := HN1.out; omega
      have HID : Hid (∀ i, i < n → idAt s.R i < 65536) := Lib.hid fun i hi => by have := idAt_le s.R i; omega
      have hmk := makeI n (by omega) w
      have HFUL := Lib.hid hf
      go_enter Tryd.func15, Tryd.ntmps15
      go_wp2_with fail
      refine HSZ.out.mono ?_
      rintro e w' ⟨rfl, rfl⟩
      go_upto_region 3 with fail
      go_cut [6] (fun v wx => v = .int .i64 n ∧ wx = w)
      case first =>
        by_cases hq : Q ≤ 1
        · have hqi : (Q : Int) ≤ 1 := by omega
          go_wp2_with fail
          go_meet
          exact ⟨by rw [HQN.out.1 hq]; rfl, rfl⟩
        · have hqi : ¬ (Q : Int) ≤ 1 := by omega
          have hqn : ¬ Q ≤ 1 := hq
          go_wp2_with fail
          go_meet
          exact ⟨by rw [HQN.out.2 hq], rfl⟩
      case rest =>
        obtain ⟨rfl, rfl⟩ := hcut
        go_wp2_with fail
        refine HLV.out.mono ?_
        rintro e w' ⟨rfl, rfl⟩
        go_wp2_with fail
        obtain ⟨w1, hw1⟩ : ∃ w1, w1 = wc.alloc (.cells (Array.replicate n (Value.int .i64 0)) 3) := ⟨_, rfl⟩
        rw [← hw1]
        obtain ⟨g, hg⟩ : ∃ g, g = wc.heap.size := ⟨_, rfl⟩
        rw [← hg]
        have hf1 : Fr [] wc w1 := by rw [hw1]; exact (Fr.refl _ _).alloc _
        have HA1 : Hid (Arr w1 g n (fun j => if j < 0 then idAt s.R j else 0)) := Lib.hid (by rw [hw1, hg]; exact (Arr.made wc n).congr fun j _ => by rw [if_neg (by omega)])
        have HR1 := Lib.hid (HR.out.keep hf1)
        have HF1 := Lib.hid hf1
        have HG := Lib.hid (show wc.heap.size ≤ g by omega)
        have HGN : Hid (g ∉ bs) := Lib.hid (fun hm => by have := (HR.out.lt _ hm).2; omega)
        clear hw1 hg hf1 hmk q1 q2 q3 q4 q6 hfi HSZ HLV hf
        go_loopw [31] (fun q wr => ∃ (i : Nat) (bs' : List Nat) (t : RFS), i ≤ n ∧ q = .int .i64 i ∧ RF B bs' wr p t ∧ Like s t (taken (zs 31) s.R i) ∧ Stp bs wc bs' wr ∧ Arr wr g n (fun j => if j < i then idAt s.R j else 0) ∧ g ∉ bs') (fun q _ => n - (intOf q).toNat)
        case atStart => exact ⟨0, bs, s, by omega, rfl, HR1.out, ⟨rfl, rfl, rfl, rfl⟩, ⟨HF1.out.mono (by simp), fun i hi => .inl hi⟩, HA1.out, HGN.out⟩
        case round =>
          obtain ⟨i, bs1, t, hi, rfl, hr, hlk, hst, ha, hgb⟩ := hrel
          have HT := Lib.hid hr
          have HLK := Lib.hid hlk
          have HST := Lib.hid hst
          have HAR := Lib.hid ha
          have HGB := Lib.hid hgb
          clear hr hlk hst ha hgb
          by_cases hlt : i < n
          · have hii : (i : Int) < (n : Int) := by omega
            have hi0 : (0 : Int) ≤ (i : Int) := by omega
            have hidl := HID.out i hlt
            have hlow : lowest t.R = idAt s.R i := by rw [HLK.out.R]; exact lowest_taken _ _ _
            have hal : alI t = idAt s.R i ∧ alE t = 0 ∧ alS t = (t.toLow (idAt s.R i)).put (idAt s.R i) (zs 31) := by
              unfold alI alE alS
              rw [hlow, if_neg (by omega), if_neg (by omega), if_neg (by omega), HLK.out.sz, h32]
              exact ⟨rfl, rfl, rfl⟩
            have hAL := Alloc_F B bs1 wr p t HT.out
            rw [hal.1, hal.2.1, hal.2.2] at hAL
            have HAL := Lib.hid hAL
            clear hAL hal hlow
            go_wp2_with fail
            refine HAL.out.mono ?_
            rintro e w2 ⟨rfl, bs2, h2, s2⟩
            have hgb2 : g ∉ bs2 := fun hm => by
              rcases s2.2 _ hm with h | h
              · exact HGB.out h
              · have := HAR.out.lt; omega
            have ha2 := HAR.out.fr s2.1 HGB.out
            obtain ⟨c1, f1⟩ := ha2.cell hlt
            have HR2 := Lib.hid h2
            have HS2 := Lib.hid s2
            have HA2 := Lib.hid ha2
            have HGB2 := Lib.hid hgb2
            clear h2 s2 ha2 hgb2 HAL
            go_wp2
            go_roundw
            case rel =>
              refine ⟨i + 1, bs2, _, by omega, by go_num, HR2.out.fr ((Fr.refl [g] w2).setCell (p := ⟨g, i, none⟩) (by simp) _) (fun k hk hm => by simp at hm; subst hm; exact HGB2.out hk), ⟨HLK.out.kd, HLK.out.vr, HLK.out.sz, ?_⟩, ?_, ?_, HGB2.out⟩
              · show putR t.R (idAt s.R i) (zs 31) = _
                rw [HLK.out.R, taken_succ]
              · have h := HST.out.trans HS2.out
                exact ⟨h.1.next ((Fr.refl [g] w2).setCell (p := ⟨g, i, none⟩) (by simp) _) (fun k hk hlt => by simp at hk; have := HG.out; omega), h.2⟩
              · exact HA2.out.set i _ (by rw [if_pos (by omega)]) fun j hj hne => by
                  by_cases h : j < i
                  · rw [if_pos h, if_pos (by omega)]
                  · rw [if_neg h, if_neg (by omega)]
            case measure => simp [intOf] <;> omega
          · obtain rfl : n = i := by omega
            have hii : ¬ (n : Int) < (n : Int) := by omega
            have HAN : Hid (Arr wr g n (fun j => (idAt s.R j : Nat))) := Lib.hid (HAR.out.congr fun j hj => by rw [if_pos hj])
            go_wp2_with fail
            have HBY : Hid (∀ (W : World) (bs' : List Nat), Stp bs wc bs' W → Bytes W a l) := Lib.hid fun W bs' hs => HB.out.fr hs.1 (.inr fun ad e hm => HOFF.out ad e hm)
            clear hlt hii hi
            go_loopw [45] (fun q wr => ∃ (i : Nat) (bs' : List Nat) (t : RFS), i ≤ n ∧ q = .int .i64 i ∧ RF B bs' wr p t ∧ Like s t (storeR (taken (zs 31) s.R n) (putL s.R l n i)) ∧ Stp bs wc bs' wr ∧ Arr wr g n (fun j => (idAt s.R j : Nat)) ∧ g ∉ bs') (fun q _ => n - (intOf q).toNat)
            case atStart => exact ⟨0, bs1, t, by omega, rfl, HT.out, HLK.out, HST.out, HAN.out, HGB.out⟩
            case round =>
              clear HT HLK HST HAR HAN HGB
              obtain ⟨i, bs1, t, hi, rfl, hr, hlk, hst, ha, hgb⟩ := hrel
              have HT := Lib.hid hr
              have HLK := Lib.hid hlk
              have HST := Lib.hid hst
              have HAR := Lib.hid ha
              have HGB := Lib.hid hgb
              have HB2 := Lib.hid (HBY.out _ _ hst)
              clear hr hlk hst ha hgb
              by_cases hlt : i < n
              · obtain ⟨c1, -⟩ := HAR.out.cell hlt
                have hi0 : (0 : Int) ≤ (i : Int) := by omega
                have hii : (i : Int) < (n : Int) := by omega
                have hidl := HID.out i hlt
                obtain ⟨I, hI⟩ : ∃ I, I = idAt s.R i := ⟨_, rfl⟩
                rw [← hI] at c1 hidl
                have HI := Lib.hid hI
                obtain ⟨P, hP⟩ : ∃ P, P = 25 * i := ⟨_, rfl⟩
                have hPl : P ≤ l.length := by have := HN1.out; omega
                have HP := Lib.hid hP
                have e1 : IntKind.i64.wrap ((i : Int) * 25) = (P : Int) := by rw [IntWalk.i64_in _ (by omega)]; omega
                have e2 : IntKind.i64.wrap ((i : Int) + 1) = (i : Int) + 1 := IntWalk.i64_in _ (by omega)
                have e3 : IntKind.i64.wrap (((i : Int) + 1) * 25) = (P : Int) + 25 := by rw [IntWalk.i64_in _ (by omega)]; omega
                obtain ⟨D, hD⟩ : ∃ D, D = partI l i := ⟨_, rfl⟩
                have hDl : D.length = min 25 (l.length - P) := by rw [hD, partI_length, hP]
                have HD := Lib.hid hD
                have HDL := Lib.hid hDl
                have HDB : Hid (∀ b o, a = some ⟨b, o, none⟩ → Bytes wr (some ⟨b, o + P, none⟩) D) := Lib.hid fun b o e => by
                  have h := (e ▸ HB2.out).sub P D.length (by omega)
                  rw [show (l.drop P).take D.length = D by
                    rw [hD]
                    unfold partI
                    rw [← hP, List.length_take, List.take_eq_take_iff]
                    simp] at h
                  exact h
                clear hI hP hD hDl
                go_upto_region 15 with fail
                go_cut [11] (fun v wx => wx = wr ∧ ∃ pa pc, v = .slice pa D.length pc ∧ (pa = none → pc = 0) ∧ Bytes wr pa D)
                case first =>
                  have p0 : (0 : Int) ≤ (P : Int) := by omega
                  have p1 : ((P : Int) + 25).toNat - P = 25 := by omega
                  by_cases hm : l.length ≤ P + 25
                  · have hmi : (l.length : Int) ≤ (P : Int) + 25 := by omega
                    have p2 : (P : Int) ≤ (l.length : Int) := by omega
                    have p3 : (l.length : Int) ≤ (c : Int) := by omega
                    have p4 : l.length - P = D.length := by have := HDL.out; omega
                    cases a with
                    | none =>
                      have hl0 : l = [] := by
                        rcases HB2.out with h | ⟨_, _, h, _⟩
                        · exact h
                        · cases h
                      have hP0 : P = 0 := by rw [hl0] at hPl; simpa using hPl
                      have hc0 : c = 0 := HNO.out rfl
                      have hD0 : D.length = 0 := by have := HDL.out; rw [hl0] at this; simp at this; omega
                      subst hc0 hl0 hP0
                      go_wp2_with fail
                      go_meet
                      refine ⟨rfl, none, 0, by rw [hD0], fun _ => rfl, .inl (List.eq_nil_of_length_eq_zero hD0)⟩
                    | some ad =>
                      obtain ⟨b, o, hab⟩ : ∃ b o, D = [] ∨ ad = ⟨b, o, none⟩ := by
                        rcases HB2.out with h | ⟨b, o, h, _⟩
                        · exact ⟨0, 0, .inl (List.eq_nil_of_length_eq_zero (by have := HDL.out; rw [h] at this; simpa using this))⟩
                        · exact ⟨b, o, .inr (Option.some.inj h)⟩
                      by_cases hcP : c = P
                      · have hD0 : D.length = 0 := by omega
                        have hcPi : ((c : Int) == (P : Int)) = true := by rw [beq_iff_eq]; omega
                        go_wp2_with fail
                        go_meet
                        exact ⟨rfl, some ad, 0, by rw [hD0], fun h => (by cases h), .inl (List.eq_nil_of_length_eq_zero hD0)⟩
                      · have hcPi : ((c : Int) == (P : Int)) = false := by rw [beq_eq_false_iff_ne]; omega
                        go_wp2_with fail
                        go_meet
                        refine ⟨rfl, _, _, rfl, fun h => (by cases h), ?_⟩
                        rcases hab with h | h
                        · exact .inl h
                        · subst h; rw [addO]; exact HDB.out b o rfl
                  · have hmi : ¬ (l.length : Int) ≤ (P : Int) + 25 := by omega
                    have p2 : (P : Int) ≤ (P : Int) + 25 := by omega
                    have p3 : (P : Int) + 25 ≤ (c : Int) := by omega
                    have p4 : D.length = 25 := by have := HDL.out; omega
                    cases a with
                    | none =>
                      exfalso
                      have hc0 : c = 0 := HNO.out rfl
                      omega
                    | some ad =>
                      obtain ⟨b, o, hab⟩ : ∃ b o, ad = ⟨b, o, none⟩ := by
                        rcases HB2.out with h | ⟨b, o, h, _⟩
                        · exfalso; rw [h] at hm; simp at hm
                        · exact ⟨b, o, Option.some.inj h⟩
                      subst hab
                      have hcP : ¬ c = P := by omega
                      go_wp2_with fail
                      go_meet
                      exact ⟨rfl, some ⟨b, o + P, none⟩, c - P, by rw [p4], fun h => (by cases h), HDB.out b o rfl⟩
                case rest =>
                  obtain ⟨hwx, pa, pc, rfl, hpn, hpb⟩ := hcut
                  have hwx' := hwx.symm
                  subst hwx'
                  have HPN := Lib.hid hpn
                  have HPB := Lib.hid hpb
                  clear hpn hpb e1 e2 e3 HDB
                  by_cases hz : i = 0
                  · subst hz
                    have e2 : IntKind.i64.wrap ((0 : Int) + 1) = 1 := by decide
                    by_cases hx : 0 + 1 < n
                    · have hxi : (1 : Int) < (n : Int) := by omega
                      have c2 : ∀ cs T, (wr.alloc (.cells cs T)).cell? ⟨g, 1, none⟩ = some (.int .i64 (idAt s.R 1 : Nat)) := fun cs T => ((HAR.out.keep ((Fr.refl [] wr).alloc _)).cell hx).1
                      go_wp2_with fail
                      have hrec : blkB 1 D.length (((idAt s.R 1 : Nat) : Int) + 1).toNat D = recI s.R l n 0 := by
                        unfold recI
                        rw [if_pos rfl, if_pos hx, ← HD.out]
                        rw [show (((idAt s.R 1 : Nat) : Int) + 1).toNat = idAt s.R 1 + 1 by omega]
                      refine (blkBytes 1 D.length (idAt s.R 1 : Nat) pa pc D _ (by omega) (by have := HDL.out; omega) (by omega) (by have := HID.out 1 hx; omega) (by have := HDL.out; omega) HPN.out (HPB.out.keep ((Fr.refl [] wr).alloc _))).mono ?_
                      rintro e w3 ⟨v, rfl, hfr⟩
                      rw [hrec] at hfr
                      obtain ⟨g3, c3, rfl, -, -, hb3, hf3⟩ := hfr.bytes
                      have HF3 := Lib.hid (((Fr.refl [] wr).alloc _).trans hf3)
                      have hpe : putE t (I : Int) (recI s.R l n 0).length = 0 := putE_ok (by omega) (by rw [recI_length, HLK.out.sz, h32])
                      have hps : putS t (I : Int) (recI s.R l n 0) = t.put I (recI s.R l n 0) := by unfold putS; rw [if_pos hpe]; rfl
                      have hPUT := Put_F B bs1 w3 p t (I : Int) (some ⟨g3, 0, none⟩) c3 _ (HT.out.keep HF3.out) (by rw [recI_length]; omega) (fun h => by cases h) hb3
                      rw [hpe, hps] at hPUT
                      have HPUT := Lib.hid hPUT
                      clear hPUT hpe hps hb3 hf3 hfr hrec
                      go_wp2_with fail
                      refine HPUT.out.mono ?_
                      rintro e w4 ⟨rfl, bs4, h4, s4⟩
                      have HR4 := Lib.hid h4
                      have HS4 := Lib.hid s4
                      clear h4 s4
                      go_wp2
                      go_roundw
                      case rel =>
                        refine ⟨0 + 1, bs4, _, by omega, by go_num, HR4.out, ⟨HLK.out.kd, HLK.out.vr, HLK.out.sz, ?_⟩, (HST.out.keepR HF3.out).trans HS4.out, (HAR.out.keep HF3.out).fr HS4.out.1 HGB.out, fun hm => ?_⟩
                        · show putR t.R I (recI s.R l n 0) = _
                          rw [HLK.out.R, putL_succ, storeR_snoc, HI.out]
                        · rcases HS4.out.2 _ hm with h | h
                          · exact HGB.out h
                          · have := HAR.out.lt; have := HF3.out.size; omega
                      case measure => simp [intOf] <;> omega
                    · have hxi : ¬ (1 : Int) < (n : Int) := by omega
                      go_wp2_with fail
                      have hrec : blkB 1 D.length (((-1) : Int) + 1).toNat D = recI s.R l n 0 := by
                        unfold recI
                        rw [if_pos rfl, if_neg hx, ← HD.out]
                        rfl
                      refine (blkBytes 1 D.length (-1) pa pc D _ (by omega) (by have := HDL.out; omega) (by omega) (by omega) (by have := HDL.out; omega) HPN.out (HPB.out.keep ((Fr.refl [] wr).alloc _))).mono ?_
                      rintro e w3 ⟨v, rfl, hfr⟩
                      rw [hrec] at hfr
                      obtain ⟨g3, c3, rfl, -, -, hb3, hf3⟩ := hfr.bytes
                      have HF3 := Lib.hid (((Fr.refl [] wr).alloc _).trans hf3)
                      have hpe : putE t (I : Int) (recI s.R l n 0).length = 0 := putE_ok (by omega) (by rw [recI_length, HLK.out.sz, h32])
                      have hps : putS t (I : Int) (recI s.R l n 0) = t.put I (recI s.R l n 0) := by unfold putS; rw [if_pos hpe]; rfl
                      have hPUT := Put_F B bs1 w3 p t (I : Int) (some ⟨g3, 0, none⟩) c3 _ (HT.out.keep HF3.out) (by rw [recI_length]; omega) (fun h => by cases h) hb3
                      rw [hpe, hps] at hPUT
                      have HPUT := Lib.hid hPUT
                      clear hPUT hpe hps hb3 hf3 hfr hrec
                      go_wp2_with fail
                      refine HPUT.out.mono ?_
                      rintro e w4 ⟨rfl, bs4, h4, s4⟩
                      have HR4 := Lib.hid h4
                      have HS4 := Lib.hid s4
                      clear h4 s4
                      go_wp2
                      go_roundw
                      case rel =>
                        refine ⟨0 + 1, bs4, _, by omega, by go_num, HR4.out, ⟨HLK.out.kd, HLK.out.vr, HLK.out.sz, ?_⟩, (HST.out.keepR HF3.out).trans HS4.out, (HAR.out.keep HF3.out).fr HS4.out.1 HGB.out, fun hm => ?_⟩
                        · show putR t.R I (recI s.R l n 0) = _
                          rw [HLK.out.R, putL_succ, storeR_snoc, HI.out]
                        · rcases HS4.out.2 _ hm with h | h
                          · exact HGB.out h
                          · have := HAR.out.lt; have := HF3.out.size; omega
                      case measure => simp [intOf] <;> omega
                  · have e2 : IntKind.i64.wrap ((i : Int) + 1) = (i : Int) + 1 := IntWalk.i64_in _ (by omega)
                    have hzi : ((i : Int) == 0) = false := by rw [beq_eq_false_iff_ne]; omega
                    have HZ := Lib.hid hz
                    by_cases hx : i + 1 < n
                    · have hxi : (i : Int) + 1 < (n : Int) := by omega
                      have c2 : ∀ cs T, (wr.alloc (.cells cs T)).cell? ⟨g, i + 1, none⟩ = some (.int .i64 (idAt s.R (i + 1) : Nat)) := fun cs T => ((HAR.out.keep ((Fr.refl [] wr).alloc _)).cell hx).1
                      go_wp2_with fail
                      have hrec : blkB 0 D.length (((idAt s.R (i + 1) : Nat) : Int) + 1).toNat D = recI s.R l n i := by
                        unfold recI
                        rw [if_neg HZ.out, if_pos hx, ← HD.out]
                        rw [show (((idAt s.R (i + 1) : Nat) : Int) + 1).toNat = idAt s.R (i + 1) + 1 by omega]
                      refine (blkBytes 0 D.length (idAt s.R (i + 1) : Nat) pa pc D _ (by omega) (by have := HDL.out; omega) (by omega) (by have := HID.out (i + 1) hx; omega) (by have := HDL.out; omega) HPN.out (HPB.out.keep ((Fr.refl [] wr).alloc _))).mono ?_
                      rintro e w3 ⟨v, rfl, hfr⟩
                      rw [hrec] at hfr
                      obtain ⟨g3, c3, rfl, -, -, hb3, hf3⟩ := hfr.bytes
                      have HF3 := Lib.hid (((Fr.refl [] wr).alloc _).trans hf3)
                      have hpe : putE t (I : Int) (recI s.R l n i).length = 0 := putE_ok (by omega) (by rw [recI_length, HLK.out.sz, h32])
                      have hps : putS t (I : Int) (recI s.R l n i) = t.put I (recI s.R l n i) := by unfold putS; rw [if_pos hpe]; rfl
                      have hPUT := Put_F B bs1 w3 p t (I : Int) (some ⟨g3, 0, none⟩) c3 _ (HT.out.keep HF3.out) (by rw [recI_length]; omega) (fun h => by cases h) hb3
                      rw [hpe, hps] at hPUT
                      have HPUT := Lib.hid hPUT
                      clear hPUT hpe hps hb3 hf3 hfr hrec
                      go_wp2_with fail
                      refine HPUT.out.mono ?_
                      rintro e w4 ⟨rfl, bs4, h4, s4⟩
                      have HR4 := Lib.hid h4
                      have HS4 := Lib.hid s4
                      clear h4 s4
                      go_wp2
                      go_roundw
                      case rel =>
                        refine ⟨i + 1, bs4, _, by omega, by go_num, HR4.out, ⟨HLK.out.kd, HLK.out.vr, HLK.out.sz, ?_⟩, (HST.out.keepR HF3.out).trans HS4.out, (HAR.out.keep HF3.out).fr HS4.out.1 HGB.out, fun hm => ?_⟩
                        · show putR t.R I (recI s.R l n i) = _
                          rw [HLK.out.R, putL_succ, storeR_snoc, HI.out]
                        · rcases HS4.out.2 _ hm with h | h
                          · exact HGB.out h
                          · have := HAR.out.lt; have := HF3.out.size; omega
                      case measure => simp [intOf] <;> omega
                    · have hxi : ¬ (i : Int) + 1 < (n : Int) := by omega
                      go_wp2_with fail
                      have hrec : blkB 0 D.length (((-1) : Int) + 1).toNat D = recI s.R l n i := by
                        unfold recI
                        rw [if_neg HZ.out, if_neg hx, ← HD.out]
                        rfl
                      refine (blkBytes 0 D.length (-1) pa pc D _ (by omega) (by have := HDL.out; omega) (by omega) (by omega) (by have := HDL.out; omega) HPN.out (HPB.out.keep ((Fr.refl [] wr).alloc _))).mono ?_
                      rintro e w3 ⟨v, rfl, hfr⟩
                      rw [hrec] at hfr
                      obtain ⟨g3, c3, rfl, -, -, hb3, hf3⟩ := hfr.bytes
                      have HF3 := Lib.hid (((Fr.refl [] wr).alloc _).trans hf3)
                      have hpe : putE t (I : Int) (recI s.R l n i).length = 0 := putE_ok (by omega) (by rw [recI_length, HLK.out.sz, h32])
                      have hps : putS t (I : Int) (recI s.R l n i) = t.put I (recI s.R l n i) := by unfold putS; rw [if_pos hpe]; rfl
                      have hPUT := Put_F B bs1 w3 p t (I : Int) (some ⟨g3, 0, none⟩) c3 _ (HT.out.keep HF3.out) (by rw [recI_length]; omega) (fun h => by cases h) hb3
                      rw [hpe, hps] at hPUT
                      have HPUT := Lib.hid hPUT
                      clear hPUT hpe hps hb3 hf3 hfr hrec
                      go_wp2_with fail
                      refine HPUT.out.mono ?_
                      rintro e w4 ⟨rfl, bs4, h4, s4⟩
                      have HR4 := Lib.hid h4
                      have HS4 := Lib.hid s4
                      clear h4 s4
                      go_wp2
                      go_roundw
                      case rel =>
                        refine ⟨i + 1, bs4, _, by omega, by go_num, HR4.out, ⟨HLK.out.kd, HLK.out.vr, HLK.out.sz, ?_⟩, (HST.out.keepR HF3.out).trans HS4.out, (HAR.out.keep HF3.out).fr HS4.out.1 HGB.out, fun hm => ?_⟩
                        · show putR t.R I (recI s.R l n i) = _
                          rw [HLK.out.R, putL_succ, storeR_snoc, HI.out]
                        · rcases HS4.out.2 _ hm with h | h
                          · exact HGB.out h
                          · have := HAR.out.lt; have := HF3.out.size; omega
                      case measure => simp [intOf] <;> omega
              · obtain rfl : n = i := by omega
                have hii : ¬ (n : Int) < (n : Int) := by omega
                obtain ⟨c1, -⟩ := HAR.out.cell hn0
                go_wp2
                go_ret2
                refine ⟨?_, bs1, t, HT.out, ?_, HST.out⟩
                · unfold stI; rw [HE.out, if_pos rfl]; rfl
                · have h := HLK.out
                  refine ⟨h.kd, h.vr, h.sz, ?_⟩
                  rw [h.R]
                  unfold stS
                  rw [HE.out, if_pos rfl, HN.out, stR_taken]
  · have h32i : ((s.sz : Int) != 32) = true := by rw [bne_iff_ne]; omega
    have HE : Hid (stE s l.length = 4) := Lib.hid (by unfold stE; rw [if_pos h32])
    go_enter Tryd.func15, Tryd.ntmps15
    go_wp2_with fail
    refine HSZ.out.mono ?_
    rintro e w' ⟨rfl, rfl⟩
    go_wp2
    go_ret2
    refine ⟨by unfold stI; rw [HE.out]; rfl, bs, s, HR.out, ⟨rfl, rfl, rfl, ?_⟩, Stp.refl _ _⟩
    unfold stS; rw [HE.out]; rfl
end Go.Proofs.YtkcipbjikimlfaaDoor

/- Blocks: parse, sound. -/
namespace Go.Proofs.YtkcipbjikimlfaaDoor
open Go.RowKit
attribute [local go_sem ↓] Go.wp_at_zero Go.wp_at_succ
theorem results_row1 {P : Program} {fn : Func} {p : Tmp} {ty : TypeId} (h : fn.results = #[.cell p ty]) (tmps : Array Value) (w : World) (g T : Nat) (cs : Array Value) (d : TypeDesc)
    (hp : tmps.getD p undef = .pointer (some ⟨g, 0, none⟩)) (hg : w.heap[g]? = some (.cells cs T))
    (hu : P.underlying ty = some d) (hd : (match d with | .struct _ | .array _ _ => true | _ => false) = true) (hi : (P.info? ty).map (·.size) = some cs.size) :
    (results fn tmps).run P w = .ok (.agg cs) w := by
  have hl := run_loadVar_row w g T ty cs (0, 0) d hg hu hd hi
  have key : (results fn tmps).run P w = ((asAddr (tmps.getD p undef)).run P w).andThen fun a w₁ => (loadVar ty a).run P w₁ := by
    simp only [results, h]
    simp [Sem.run_bind, Result.andThen]
  rw [key, hp]
  simp [asAddr, hl]
theorem wrapB (l : List UInt8) (q wd : Nat) (h : wd ≤ 4) : IntKind.i64.wrap (nm l q wd : Int) = (nm l q wd : Int) := IntWalk.i64_in _ (by have := nm_le l q wd h; omega)
theorem infoBk : (Tryd.prog.info? 73).map (·.size) = some 4 := by kernel_rfl
theorem fourFz {w : World} {b T : Nat} {c0 c1 c2 c3 : Value} (h : w.heap[b]? = some (.cells #[c0, c1, c2, c3] T)) : w.frozen? ⟨b, 0, none⟩ = false ∧ w.frozen? ⟨b, 1, none⟩ = false ∧ w.frozen? ⟨b, 2, none⟩ = false ∧ w.frozen? ⟨b, 3, none⟩ = false :=
  ⟨frozen_of_row _ _ 0 _ _ h, frozen_of_row _ _ 1 _ _ h, frozen_of_row _ _ 2 _ _ h, frozen_of_row _ _ 3 _ _ h⟩
/-- what a record of 31 bytes says -/
def pSt (d : List UInt8) : Nat := nm d 0 1
def pUs (d : List UInt8) : Nat := nm d 1 1
def pNx (d : List UInt8) : Int := (nm d 2 4 : Int) - 1
def pDa (d : List UInt8) : List UInt8 := (d.drop 6).take 25
theorem pDa_length {d : List UInt8} (h : d.length = 31) : (pDa d).length = 25 := by unfold pDa; rw [List.length_take, List.length_drop, h]; rfl
set_option maxRecDepth 100000 in
set_option maxHeartbeats 1600000 in
theorem parse_F (a : Option Addr) (c : Nat) (l : List UInt8) (w : World) (h : l.length = 31) (hb : Bytes w a l) :
    Calls Tryd.prog 34 #[.slice a l.length c] w fun e w' => ∃ v, e = .returned (.agg #[.int .i64 (pSt l), .int .i64 (pUs l), .int .i64 (pNx l), v]) ∧ w'.ownsRow w.heap.size 5 1 v 25 ((pDa l).map B8) ∧ Fr [] w w' := by
  have HL := Lib.hid h
  have hle : l.length ≤ 100 := by omega
  have HB := Lib.hid hb
  clear hb h
  have i1 := wrapB l 0 1 (by omega)
  have i2 := wrapB l 1 1 (by omega)
  have i3 := wrapB l 2 4 (by omega)
  have i4 : IntKind.i64.wrap ((nm l 2 4 : Int) - 1) = (nm l 2 4 : Int) - 1 := IntWalk.i64_in _ (by have := nm_le l 2 4 (by omega); omega)
  go_enter Tryd.func34, Tryd.ntmps34
  go_wp2_with fail
  refine (NewR a c l _ (by omega) (by have := HL.out; omega) (HB.out.keep ((Fr.refl _ _).alloc _))).mono ?_
  rintro e w1 ⟨p, g, rfl, hr, hg, hgp, hf⟩
  have hz := hf.obj (heap_alloc_new w (.cells #[.int .i64 0, .int .i64 0, .int .i64 0, .slice none 0 0] 73)) (by simp)
  have HZ1 := Lib.hid hz
  have HF1 := Lib.hid (((Fr.refl [] w).alloc _).trans hf)
  have hgw : w.heap.size < g := by simp at hg; omega
  have HR1 := Lib.hid hr
  have hp1 := hr.lt
  clear hr hf hz hg
  go_wp2_with fail
  refine (NumR w1 p g l 0 1 HR1.out (by omega) (by unfold Wd; omega) (by omega) (by have := HL.out; omega)).mono ?_
  rintro e w2 ⟨rfl, hr, hf⟩
  have HR2 := Lib.hid hr
  have HF2 := Lib.hid hf
  clear hr hf
  go_wp2_with fail
  refine (NumR w2 p g l _ 1 HR2.out (by omega) (by unfold Wd; omega) (by omega) (by have := HL.out; omega)).mono ?_
  rintro e w3 ⟨rfl, hr, hf⟩
  have HR3 := Lib.hid hr
  have HF3 := Lib.hid (HF2.out.trans hf)
  clear hr hf
  go_wp2_with fail
  refine (NumR w3 p g l _ 4 HR3.out (by omega) (by unfold Wd; omega) (by omega) (by have := HL.out; omega)).mono ?_
  rintro e w4 ⟨rfl, hr, hf⟩
  have HR4 := Lib.hid hr
  have HF4 := Lib.hid (HF3.out.trans hf)
  clear hr hf
  go_wp2_with fail
  generalize hag : nm l 0 1 = A0 at *
  generalize hau : nm l 1 1 = A1 at *
  generalize han : (nm l 2 4 : Int) - 1 = A2 at *
  obtain ⟨w5, hw5⟩ : ∃ w5, w5 = w4.alloc (.cells #[.int .i64 A0, .int .i64 A1, .int .i64 A2, .slice none 0 0] 73) := ⟨_, rfl⟩
  rw [← hw5]
  have hf5 : Fr [] w4 w5 := by rw [hw5]; exact (Fr.refl _ _).alloc _
  have ho5 : w5.heap[w4.heap.size]? = some (.cells #[.int .i64 A0, .int .i64 A1, .int .i64 A2, .slice none 0 0] 73) := by rw [hw5]; exact heap_alloc_new w4 _
  have hz4 := HF4.out.obj HZ1.out (by simp; omega)
  have hs14 := HF4.out.size
  clear hw5
  refine (RawR w5 p g l _ 25 (HR4.out.fr hf5 (by simp) (by simp)) (by omega) (by have := HL.out; simp; omega)).mono ?_
  rintro e w6 ⟨v, rfl, hown, hr6, hf6⟩
  have hqq : (l.drop (0 + 1 + 1 + 4)).take 25 = pDa l := rfl
  rw [hqq, pDa_length HL.out] at hown
  have HOW := Lib.hid hown
  have HSZ5 := Lib.hid hf5.size
  have HS := Lib.hid (show w4.heap.size < w5.heap.size from (Array.getElem?_eq_some_iff.1 ho5).1)
  have HF6 := Lib.hid (HF4.out.trans ((hf5.mono (T := [p]) (by simp)).trans hf6))
  have HO6 := Lib.hid (hf6.obj ho5 (by simp; omega))
  have hz6 := hf6.obj (hf5.obj hz4 (by simp)) (by simp; omega)
  have HZ6 := Lib.hid hz6
  have HS6 := Lib.hid hf6.size
  obtain ⟨sa, sc, hv, -⟩ := Bytes.of_own (l := pDa l) (by rw [pDa_length HL.out]; exact hown)
  rw [pDa_length HL.out] at hv
  subst hv
  have y3f := (fourFz HO6.out).2.2.2
  have hne : w.heap.size ≠ w4.heap.size := by omega
  have HNE := Lib.hid hne
  clear hown hr6 hf6 hqq ho5 hf5 hz4 hz6 hs14
  obtain ⟨x0, x1, x2, x3⟩ := fourB HO6.out
  obtain ⟨z0, z1, z2, z3⟩ := fourB HZ6.out
  obtain ⟨f0, f1, f2, f3⟩ := fourFz HZ6.out
  go_wp2_with fail
  have hs := HS.out
  have hs1 := HF6.out.size
  have hs0 := HF1.out.size
  have hs4 := HF4.out.size
  obtain ⟨w7, hw7⟩ : ∃ w7, w7 = w6.setCell ⟨w4.heap.size, 3, none⟩ (.slice sa 25 sc) := ⟨_, rfl⟩
  have hf7 : Fr [w4.heap.size, w.heap.size] w6 w7 := by rw [hw7]; exact (Fr.refl _ _).setCell (by simp) _
  have ho7 : w7.heap[w.heap.size]? = some (.cells #[.int .i64 0, .int .i64 0, .int .i64 0, .slice none 0 0] 73) := by rw [hw7]; exact ((Fr.refl [w4.heap.size] w6).setCell (p := ⟨w4.heap.size, 3, none⟩) (by simp) _).obj HZ6.out (by simpa using HNE.out)
  have hf8 : Fr [w4.heap.size, w.heap.size] w6 (w7.setCells w.heap.size 0 [.int .i64 A0, .int .i64 A1, .int .i64 A2, .slice sa 25 sc]) := Fr.setCells (by simp) _ 0 _ hf7
  refine bodyPost_ret (v := .agg #[.int .i64 A0, .int .i64 A1, .int .i64 A2, .slice sa 25 sc]) ?_ rfl ⟨.slice sa 25 sc, ?_, own_base (own_fr HOW.out (by rw [hw7] at hf8; exact hf8) fun i hi => ?_) (by omega), ?_⟩
  · rw [← hw7]
    exact results_row1 Tryd.results34 _ _ w.heap.size 73 _ _ rfl (obj_setCells ho7 [.int .i64 A0, .int .i64 A1, .int .i64 A2, .slice sa 25 sc] rfl) Tryd.underlying73 rfl infoBk
  · rw [← hag, ← hau, ← han]; rfl
  · have := (own_lt HOW.out hi).1
    simp
    omega
  · rw [hw7] at hf8
    exact HF1.out.next ((HF6.out.mono (T := [p, w4.heap.size, w.heap.size]) (by simp)).trans (hf8.mono (by simp))) (by intro i hi hlt; simp at hi; omega)
theorem I80 : I8 0 = 0 := by rw [show (0 : UInt8) = UInt8.ofNat 0 from rfl, I8_of_nat 0 (by decide)]; rfl
/-- is a block right by itself? -/
def soundV (R : Recs) (st us : Nat) (nx : Int) (D : List UInt8) : Bool :=
  decide (st ≤ 1) && (decide (us ≤ 25) && ((D.drop us).all (fun x => x == 0) && (if nx = -1 then decide (st = 1 ∨ 0 < us) else decide (us = 25) && usedR R nx)))
set_option maxRecDepth 100000 in
set_option maxHeartbeats 3200000 in
theorem sound_F (B : Nat) (bs : List Nat) (w : World) (p : Nat) (s : RFS) (h : RF B bs w p s) (st us : Nat) (nx : Int) (a : Option Addr) (c : Nat) (D : List UInt8) (hst : st ≤ 255) (hus : us ≤ 255) (hnx : -1 ≤ nx) (hnx2 : nx ≤ 4294967295) (hD : D.length = 25) (hc : 25 ≤ c) (hb : Bytes w a D) :
    Calls Tryd.prog 35 #[.agg #[.int .i64 st, .int .i64 us, .int .i64 nx, .slice a 25 c], .pointer (some ⟨p, 0, none⟩)] w fun e w' => e = .returned (.bool (soundV s.R st us nx D)) ∧ Fr [] w w' := by
  obtain ⟨gb, ob, rfl, hcell⟩ := hb.at (by omega)
  rw [hD] at hcell
  have HR := Lib.hid h
  have HC := Lib.hid hcell
  clear h hb hcell
  obtain ⟨wb, hwb⟩ : ∃ wb, wb = w.alloc (.cells #[.int .i64 st, .int .i64 us, .int .i64 nx, .slice (some ⟨gb, ob, none⟩) 25 c] 73) := ⟨_, rfl⟩
  have HBX := Lib.hid (show wb.heap[w.heap.size]? = some (.cells #[.int .i64 st, .int .i64 us, .int .i64 nx, .slice (some ⟨gb, ob, none⟩) 25 c] 73) by rw [hwb]; exact heap_alloc_new w _)
  have HFB := Lib.hid (show Fr [] w wb by rw [hwb]; exact (Fr.refl _ _).alloc _)
  have HCB : Hid (∀ j, j < 25 → wb.cell? ⟨gb, ob + j, none⟩ = some (.int .u8 (I8 (D.getD j 0)))) := Lib.hid fun j hj => HFB.out.cell (HC.out j hj) (by simp)
  have HWB := Lib.hid hwb
  clear hwb
  by_cases h1 : st ≤ 1
  · have h1i : ¬ (1 : Int) < (st : Int) := by omega
    by_cases h2 : us ≤ 25
    · have h2i : ¬ (25 : Int) < (us : Int) := by omega
      have h2j : (us : Int) ≤ 25 := by omega
      have h0j : (0 : Int) ≤ (us : Int) := by omega
      obtain ⟨x0, x1, x2, x3⟩ := fourB HBX.out
      obtain ⟨m, hm⟩ : ∃ m, m = 25 - us := ⟨_, rfl⟩
      have hn2 : ((25 : Int) - (us : Int)).toNat = m := by omega
      have hn3 : 25 - us = m := by omega
      have HM := Lib.hid (show us + m = 25 by omega)
      clear hm
      go_enter Tryd.func35, Tryd.ntmps35
      go_upto_region 3 with fail
      rw [← HWB.out]
      have HCC := Lib.hid hc
      go_cut [21, 22, 23] (fun sv nv iv wx => ∃ pa pc, sv = .slice pa m pc ∧ nv = .int .i64 m ∧ iv = .int .i64 0 ∧ wx = wb ∧ (0 < m → pa = some ⟨gb, ob + us, none⟩))
      case first =>
        by_cases hcu : c = us
        · subst hcu
          go_wp2_with fail
          go_meet
          exact ⟨_, _, rfl, rfl, rfl, rfl, fun h => by omega⟩
        · go_wp2_with fail
          go_meet
          exact ⟨_, _, rfl, rfl, rfl, rfl, fun _ => rfl⟩
      obtain ⟨pa, pc, rfl, rfl, rfl, hwx, hpa⟩ := hcut
      have hwx' := hwx.symm
      subst hwx'
      have HPA := Lib.hid hpa
      clear hpa
      go_wp2_with fail
      have HZ : ∀ i, i < m → wb.cell? ⟨gb, ob + us + i, none⟩ = some (.int .u8 (I8 (D.getD (us + i) 0))) := fun i hi => by
        have h := HCB.out (us + i) (by have := HM.out; omega)
        rw [← Nat.add_assoc] at h
        exact h
      have HZZ := Lib.hid HZ
      clear HZ
      go_loopw [23] (fun q wr => ∃ i : Nat, i ≤ m ∧ q = .int .i64 i ∧ wr = wb ∧ ∀ j, j < i → D.getD (us + j) 0 = 0) (fun q _ => m - (intOf q).toNat)
      case atStart => exact ⟨0, by omega, rfl, rfl, fun j hj => absurd hj (by omega)⟩
      case round =>
        obtain ⟨i, hi, rfl, hwr, hz⟩ := hrel
        have hwr' := hwr.symm
        subst hwr'
        have HZ0 := Lib.hid hz
        clear hz
        by_cases hlt : i < m
        · have hii : (i : Int) < (m : Int) := by omega
          have hi0 : (0 : Int) ≤ (i : Int) := by omega
          have hpa := HPA.out (by omega)
          subst hpa
          have c1 := HZZ.out i hlt
          have e1 : IntKind.i64.wrap ((i : Int) + 1) = (i : Int) + 1 := IntWalk.i64_in _ (by have := HM.out; omega)
          obtain ⟨z, hzz⟩ : ∃ z, z = D.getD (us + i) 0 := ⟨_, rfl⟩
          rw [← hzz] at c1
          have HZI := Lib.hid hzz
          clear hzz
          by_cases h3 : z = 0
          · have h3i : (I8 z != 0) = false := by rw [h3, I80]; rfl
            have H3 := Lib.hid h3
            clear h3
            go_wp2_with fail
            refine ⟨⟨i + 1, by omega, by go_num, by trivial, fun j hj => ?_⟩, by simp [intOf] <;> omega⟩
            by_cases h : j < i
            · exact HZ0.out j h
            · rw [show j = i by omega, ← HZI.out, H3.out]
          · have h3i : (I8 z != 0) = true := by rw [bne_iff_ne]; intro h; exact h3 (I8_inj (h.trans I80.symm))
            go_wp2_with fail
            go_ret
            refine ⟨?_, HFB.out⟩
            have : (D.drop us).all (fun x => x == 0) = false := by
              rw [List.all_eq_false]
              refine ⟨z, ?_, by simpa using h3⟩
              rw [List.mem_iff_getElem?]
              refine ⟨i, ?_⟩
              have := HM.out
              rw [List.getElem?_drop, HZI.out, List.getD_eq_getElem?_getD, List.getElem?_eq_getElem (by omega)]
              rfl
            rw [soundV, this]
            simp
        · obtain rfl : m = i := by omega
          have hii : ¬ (m : Int) < (m : Int) := by omega
          have HAL : Hid ((D.drop us).all (fun x => x == 0) = true) := Lib.hid (by
            rw [List.all_eq_true]
            intro x hx
            obtain ⟨j, hj⟩ := List.mem_iff_getElem?.1 hx
            have h1 := (List.getElem?_eq_some_iff.1 hj).1
            rw [List.length_drop] at h1
            have := HZ0.out j (by have := HM.out; omega)
            rw [List.getElem?_drop] at hj
            rw [List.getD_eq_getElem?_getD, hj] at this
            simpa using this)
          clear HZ0
          obtain ⟨x0, x1, x2, x3⟩ := fourB HBX.out
          by_cases hn : nx = -1
          · subst hn
            by_cases h4 : st = 1
            · subst h4
              go_wp2_with fail
              go_ret
              refine ⟨?_, HFB.out⟩
              rw [soundV, HAL.out, decide_eq_true h2]
              simp
            · have h4i : ((st : Int) == 1) = false := by rw [beq_eq_false_iff_ne]; omega
              have H4 := Lib.hid h4
              clear h4
              go_wp2_with fail
              go_ret
              refine ⟨?_, HFB.out⟩
              rw [soundV, HAL.out, decide_eq_true h1, decide_eq_true h2]
              simp [H4.out]
          · have hni : (nx == -1) = false := by rw [beq_eq_false_iff_ne]; exact hn
            go_wp2_with fail
            refine (Get_F B bs wb p s nx (HR.out.keep HFB.out)).mono ?_
            rintro e w2 ⟨v, rfl, hg⟩
            have HG := Lib.hid hg.2
            obtain ⟨x0, x1, x2, x3⟩ := fourB (hg.2.obj HBX.out (by simp))
            clear hg
            by_cases h6 : us = 25
            · have h6i : ((us : Int) == 25) = true := by rw [beq_iff_eq]; omega
              cases hu : usedR s.R nx with
              | true =>
                go_wp2_with fail
                go_ret
                refine ⟨?_, HFB.out.trans HG.out⟩
                rw [soundV, HAL.out, decide_eq_true h1, decide_eq_true h2, if_neg hn, decide_eq_true h6, hu]
                rfl
              | false =>
                go_wp2_with fail
                go_ret
                refine ⟨?_, HFB.out.trans HG.out⟩
                rw [soundV, HAL.out, decide_eq_true h1, decide_eq_true h2, if_neg hn, decide_eq_true h6, hu]
                rfl
            · have h6i : ((us : Int) == 25) = false := by rw [beq_eq_false_iff_ne]; omega
              have HN := Lib.hid hn
              clear hn
              go_wp2_with fail
              all_goals
                go_ret
                refine ⟨?_, HFB.out.trans HG.out⟩
                rw [soundV, HAL.out, decide_eq_true h1, decide_eq_true h2, if_neg HN.out, decide_eq_false h6]
                rfl
    · have h2i : (25 : Int) < (us : Int) := by omega
      obtain ⟨x0, x1, x2, x3⟩ := fourB HBX.out
      go_enter Tryd.func35, Tryd.ntmps35
      go_wp2_with fail
      rw [← HWB.out]
      go_ret
      refine ⟨?_, HFB.out⟩
      rw [soundV, decide_eq_false h2]
      simp
  · have h1i : (1 : Int) < (st : Int) := by omega
    obtain ⟨x0, x1, x2, x3⟩ := fourB HBX.out
    go_enter Tryd.func35, Tryd.ntmps35
    go_wp2_with fail
    rw [← HWB.out]
    go_ret
    refine ⟨?_, HFB.out⟩
    rw [soundV, decide_eq_false h1]
    rfl
end Go.Proofs.YtkcipbjikimlfaaDoor

/- Blocks: along: what it tells, what it lists, in memory. -/
namespace Go.Proofs.YtkcipbjikimlfaaDoor
open Go.RowKit Go.Maps
attribute [local go_sem ↓] Go.wp_at_zero Go.wp_at_succ
/-! the plain law -/
def recAt (R : Recs) (i : Nat) : List UInt8 := (R.getD i none).getD []
def nxtR (R : Recs) (i : Nat) : Int := pNx (recAt R i)
def sndR (R : Recs) (i : Nat) : Bool := soundV R (pSt (recAt R i)) (pUs (recAt R i)) (pNx (recAt R i)) (pDa (recAt R i))
def goodR (R : Recs) (first i : Nat) : Bool := ((pSt (recAt R i) == 1) == (i == first)) && sndR R i
/-- a walk along a chain: the ids met, the error -/
def walkN (R : Recs) (first : Nat) : Nat → List Nat → Int → List Nat × Int
  | 0, met, id => if id = -1 then (met, 0) else ([], 101)
  | k + 1, met, id => if id = -1 then (met, 0) else if id.toNat ∈ met then ([], 101) else if goodR R first id.toNat = true then walkN R first k (met ++ [id.toNat]) (nxtR R id.toNat) else ([], 100)
def walkS (R : Recs) (first : Int) : List Nat × Int := if usedR R first = true then walkN R first.toNat (R.length + 1) [] first else ([], 3)
def walkE (s : RFS) (first : Int) : List Nat × Int := if s.sz ≠ 32 then ([], 4) else walkS s.R first
theorem walkN_end (R : Recs) (first k : Nat) (met : List Nat) : walkN R first k met (-1) = (met, 0) := by
  cases k <;> exact if_pos rfl
theorem walkN_met {R : Recs} {first k : Nat} {met : List Nat} {i : Nat} (h : i ∈ met) : walkN R first k met (i : Int) = ([], 101) := by
  cases k with
  | zero => exact if_neg (by omega)
  | succ k => rw [walkN, if_neg (by omega), if_pos (by simpa using h)]
theorem walkN_bad {R : Recs} {first k : Nat} {met : List Nat} {i : Nat} (h : i ∉ met) (hg : goodR R first i = false) : walkN R first (k + 1) met (i : Int) = ([], 100) := by
  rw [walkN, if_neg (by omega), if_neg (by simpa using h), if_neg (by simpa using hg)]
theorem walkN_on {R : Recs} {first k : Nat} {met : List Nat} {i : Nat} (h : i ∉ met) (hg : goodR R first i = true) : walkN R first (k + 1) met (i : Int) = walkN R first k (met ++ [i]) (nxtR R i) := by
  rw [walkN, if_neg (by omega), if_neg (by simpa using h), if_pos (by simpa using hg)]
  simp
theorem goodR_snd {R : Recs} {first i : Nat} (h : goodR R first i = true) : sndR R i = true := by
  unfold goodR at h
  rw [Bool.and_eq_true] at h
  exact h.2
theorem sndR_next {R : Recs} {i : Nat} (h : sndR R i = true) : nxtR R i = -1 ∨ usedR R (nxtR R i) = true := by
  unfold sndR soundV at h
  simp only [Bool.and_eq_true] at h
  by_cases h1 : pNx (recAt R i) = -1
  · exact .inl h1
  · rw [if_neg h1, Bool.and_eq_true] at h
    exact .inr h.2.2.2.2
theorem nodup_le : ∀ (n : Nat) {l : List Nat}, l.Nodup → (∀ i ∈ l, i < n) → l.length ≤ n
  | 0, l, _, hl => by
    cases l with
    | nil => exact Nat.le_refl _
    | cons x l => exact absurd (hl x List.mem_cons_self) (by omega)
  | n + 1, l, hd, hl => by
    have h := nodup_le n (l := l.erase n) (hd.erase n) fun i hi => by
      have h1 := (List.Nodup.mem_erase_iff hd).1 hi
      have h2 := hl i h1.2
      omega
    rw [List.length_erase] at h
    split at h <;> omega
/-! in memory -/
/-- the ids that were met -/
def MetM (w : World) (mb n : Nat) (L : List Nat) : Prop := ∃ D : DataW Nat, w.ownsMap Tryd.prog 3 (plainElem Tryd.prog 3) mb n D ∧ ∀ k : Nat, D.atKey (.int .i64 k) (.lit (.int .i64 0)) = .lit (.int .i64 (if k ∈ L then 1 else 0))
theorem keyI : Keyed Tryd.prog 3 := int_keyed Tryd.underlying3
theorem zeroI (w : World) : (zeroValue 3).run Tryd.prog w = .ok (.int .i64 0) w := by kernel_rfl
theorem MetM.made (w : World) : MetM (w.alloc (.map #[] 0)) w.heap.size 0 [] := ⟨.map [], World.ownsMap_made _ _ _ _, fun k => rfl⟩
theorem MetM.lt {w : World} {mb n : Nat} {L : List Nat} (h : MetM w mb n L) : mb < w.heap.size := by
  obtain ⟨D, h, -⟩ := h
  exact h.lt
theorem MetM.fr {S : List Nat} {w w' : World} {mb n : Nat} {L : List Nat} (h : MetM w mb n L) (hf : Fr S w w') (hS : mb ∉ S) : MetM w' mb n L := by
  obtain ⟨D, ⟨es, clock, hb, F, hs, hD⟩, h2⟩ := h
  exact ⟨D, ⟨es, clock, hf.obj hb hS, F, hs, hD⟩, h2⟩
theorem wfI {k : Nat} (h : k < 9223372036854775808) : (Lit.int .i64 k).wf = true := by simp [Lit.wf, IntKind.min, IntKind.max, IntKind.signed, IntKind.bits] <;> omega
theorem MetM.look {w : World} {mb n : Nat} {L : List Nat} (h : MetM w mb n L) (k : Nat) (hk : k < 9223372036854775808) : (Instr.lookup 113 (.map (some mb)) (.int .i64 k) false).run Tryd.prog w = .ok (.int .i64 (if k ∈ L then 1 else 0)) w := by
  obtain ⟨D, h, h2⟩ := h
  obtain ⟨c, hrun, hat, -⟩ := h.lookup_int keyI Tryd.underlying113 Tryd.underlying3 (zeroI w) (keyOf_int_mk Tryd.underlying3 (wfI hk))
  rw [h2] at hat
  have e : (if k ∈ L then (1 : Int) else 0) = c := by
    have := hat
    simpa using this
  rw [hrun, e]
/-- met[id]++ -/
theorem MetM.up {w : World} {mb n : Nat} {L : List Nat} (h : MetM w mb n L) (k : Nat) (hk : k < 9223372036854775808) (hn : n < 1000000) (c : Nat) (hc : c ≤ 2) : ∃ w', (Instr.mapUpdate 113 (.map (some mb)) (.int .i64 k) (.int .i64 c)).run Tryd.prog w = .ok () w' ∧ Fr [mb] w w' ∧
    (Instr.lookup 113 (.map (some mb)) (.int .i64 k) false).run Tryd.prog w' = .ok (.int .i64 c) w' ∧ (c = 1 → MetM w' mb (n + 1) (L ++ [k])) := by
  obtain ⟨D, h, h2⟩ := h
  have hkey := keyOf_int_mk Tryd.underlying3 (wfI hk)
  obtain ⟨w', hrun, hown, hg⟩ := h.update keyI Tryd.underlying113 (by unfold maxLen; omega) hkey (plainElem_int (H := Nat) Tryd.underlying3 (wfI (k := c) (by omega)))
  obtain ⟨c', hrun2, hat, -⟩ := hown.lookup_int keyI Tryd.underlying113 Tryd.underlying3 (zeroI w') hkey
  have hlit : WideAt.IsKeyLit (.int .i64 (k : Int)) := by trivial
  rw [atKey_put_same h.isMap hlit] at hat
  have e : (c : Int) = c' := by simpa using hat
  refine ⟨w', hrun, Fr.of_grown hg _ (by intro j hj _; cases hj; simp), by rw [hrun2, e], fun hc1 => ⟨_, hown, fun j => ?_⟩⟩
  by_cases hj : j = k
  · subst hj
    rw [atKey_put_same h.isMap hlit, if_pos (by simp), hc1]
    rfl
  · rw [atKey_put_other (by simp; omega), h2]
    simp [hj]
theorem own_neM {w : World} {B e size n g : Nat} {v : Value} {xs : List Value} {es : Array MapEntry} {ck : Nat} (h : w.ownsRow B e size v n xs) (hh : w.heap[g]? = some (.map es ck)) : v.ownBlock ≠ some g := by
  intro hg
  rcases h.2 with ⟨rfl, _⟩ | ⟨g', cap, cur, rfl, _, h2, _⟩
  · cases hg
  · simp only [Value.ownBlock, Option.some.injEq] at hg
    subst hg
    rw [hh] at h2
    cases h2
theorem MetM.neq {w : World} {mb nm B e size n : Nat} {L : List Nat} {v : Value} {xs : List Value} (h : MetM w mb nm L) (ho : w.ownsRow B e size v n xs) : v.ownBlock ≠ some mb := by
  obtain ⟨D, ⟨es, ck, hb, -⟩, -⟩ := h
  exact own_neM ho hb
/-- a block that was read: its data in memory, its record -/
structure BI where
  a : Option Addr
  c : Nat
  d : List UInt8
def BI.v (x : BI) : Value := .slice x.a 25 x.c
def biC (x : BI) : List Value := [.int .i64 (pSt x.d), .int .i64 (pUs x.d), .int .i64 (pNx x.d), x.v]
def biCells (X : List BI) : List Value := X.flatMap biC
theorem biCells_snoc (X : List BI) (x : BI) : biCells (X ++ [x]) = biCells X ++ biC x := by unfold biCells; rw [List.flatMap_append]; simp
theorem biCells_cons (x : BI) (X : List BI) : biCells (x :: X) = biC x ++ biCells X := by unfold biCells; rw [List.flatMap_cons]
theorem biCells_length : ∀ (X : List BI), (biCells X).length = X.length * 4
  | [] => rfl
  | x :: X => by
    have := biCells_length X
    rw [biCells_cons, List.length_append, this, List.length_cons]
    show 4 + _ = _
    omega
theorem biCells_get : ∀ (X : List BI) (k : Nat) (h : k < X.length) (j : Nat), j < 4 → (biCells X)[k * 4 + j]? = (biC (X[k]'h))[j]?
  | x :: X, 0, _, j, hj => by
    rw [biCells_cons, Nat.zero_mul, Nat.zero_add, List.getElem?_append_left (by exact hj)]
    rfl
  | x :: X, k + 1, h, j, hj => by
    have ih := biCells_get X k (by simpa using h) j hj
    rw [biCells_cons, List.getElem?_append_right (by show 4 ≤ _; omega), show (k + 1) * 4 + j - (biC x).length = k * 4 + j by show (k + 1) * 4 + j - 4 = _; omega, ih]
    rfl
structure AL (w : World) (B : Nat) (v : Value) (X : List BI) : Prop where
  row : w.ownsRow B 73 4 v X.length (biCells X)
  dat : ∀ x ∈ X, w.ownsRow B 5 1 x.v 25 ((pDa x.d).map B8)
def alB (v : Value) (X : List BI) : List Nat := v.ownBlock.toList ++ X.flatMap fun x => x.v.ownBlock.toList
theorem alB_v {v : Value} {X : List BI} {g : Nat} (h : v.ownBlock = some g) : g ∈ alB v X := List.mem_append_left _ (by simpa using h)
theorem alB_x {v : Value} {X : List BI} {x : BI} {g : Nat} (hx : x ∈ X) (h : x.v.ownBlock = some g) : g ∈ alB v X := List.mem_append_right _ (List.mem_flatMap.2 ⟨x, hx, by simpa using h⟩)
theorem AL.fr {S : List Nat} {w w' : World} {B : Nat} {v : Value} {X : List BI} (h : AL w B v X) (hf : Fr S w w') (hS : ∀ g, (v.ownBlock = some g ∨ ∃ x ∈ X, x.v.ownBlock = some g) → g ∉ S) : AL w' B v X :=
  ⟨own_fr h.row hf fun g hg => hS g (.inl hg), fun x hx => own_fr (h.dat x hx) hf fun g hg => hS g (.inr ⟨x, hx, hg⟩)⟩
theorem AL.keep {w w' : World} {B : Nat} {v : Value} {X : List BI} (h : AL w B v X) (hf : Fr [] w w') : AL w' B v X := h.fr hf (by simp)
theorem AL.nil (w : World) (B : Nat) : AL w B (.slice none 0 0) [] := ⟨World.ownsRow_nil _ _ _ _, fun _ h => (List.not_mem_nil h).elim⟩
theorem own_neR {w : World} {B B' e e' size size' n n' : Nat} {v v' : Value} {xs xs' : List Value} (h : w.ownsRow B e size v n xs) (h' : w.ownsRow B' e' size' v' n' xs') (he : e ≠ e') {g : Nat} (hg : v.ownBlock = some g) : v'.ownBlock ≠ some g := by
  rcases h.2 with ⟨rfl, _⟩ | ⟨g', cap, cur, rfl, _, hh, _⟩
  · cases hg
  · simp only [Value.ownBlock, Option.some.injEq] at hg
    subst hg
    intro hg'
    rcases h'.2 with ⟨rfl, _⟩ | ⟨g2, cap2, cur2, rfl, _, hh2, _⟩
    · cases hg'
    · simp only [Value.ownBlock, Option.some.injEq] at hg'
      subst hg'
      rw [hh] at hh2
      have := Option.some.inj hh2
      simp only [Obj.cells.injEq] at this
      exact he this.2.1
theorem AL.app {w w' : World} {B : Nat} {v v' : Value} {X : List BI} {y : BI} (h : AL w B v X) (hy : w.ownsRow B 5 1 y.v 25 ((pDa y.d).map B8)) (ha : App w w' B 73 4 v v' X.length 1 (biCells X) (biC y)) : AL w' B v' (X ++ [y]) := by
  have hf := app_frZ ha
  refine ⟨by rw [List.length_append, biCells_snoc]; exact ha.own, fun x hx => ?_⟩
  rcases List.mem_append.1 hx with hx | hx
  · exact own_fr (h.dat x hx) hf fun i hi hm => own_neR (h.dat x hx) h.row (by decide) hi (by simpa using hm)
  · rw [List.mem_singleton.1 hx]
    exact own_fr hy hf fun i hi hm => own_neR hy h.row (by decide) hi (by simpa using hm)
/-- what along's loop holds -/
structure LJ (w0 wr : World) (mb nm : Nat) (L M : List Nat) (X : List BI) (v4 v5 : Value) : Prop where
  i4 : wr.ownsRow w0.heap.size 3 1 v4 M.length (M.map fun (k : Nat) => Value.int .i64 k)
  al : AL wr w0.heap.size v5 X
  mm : MetM wr mb nm L
  fr : Fr [] w0 wr
  hmb : w0.heap.size ≤ mb
theorem LJ.still {w0 wr w' : World} {mb nm : Nat} {L M : List Nat} {X : List BI} {v4 v5 : Value} (h : LJ w0 wr mb nm L M X v4 v5) (hf : Fr [] wr w') : LJ w0 w' mb nm L M X v4 v5 :=
  ⟨own_fr h.i4 hf (by simp), h.al.keep hf, h.mm.fr hf (by simp), h.fr.trans hf, h.hmb⟩
theorem LJ.map {w0 wr w' : World} {mb nm n' : Nat} {L L' M : List Nat} {X : List BI} {v4 v5 : Value} (h : LJ w0 wr mb nm L M X v4 v5) (hf : Fr [mb] wr w') (hm : MetM w' mb n' L') : LJ w0 w' mb n' L' M X v4 v5 :=
  ⟨own_fr h.i4 hf (fun g hg hm => by simp at hm; subst hm; exact h.mm.neq h.i4 hg), h.al.fr hf (fun g hg hm => by
    simp at hm
    subst hm
    rcases hg with hg | ⟨x, hx, hg⟩
    · exact h.mm.neq h.al.row hg
    · exact h.mm.neq (h.al.dat x hx) hg), hm, h.fr.next hf (fun i hi hlt => by simp at hi; have := h.hmb; omega), h.hmb⟩
theorem LJ.app4 {w0 wr w' : World} {mb nm : Nat} {L M : List Nat} {X : List BI} {v4 v4' v5 : Value} {k : Nat} (h : LJ w0 wr mb nm L M X v4 v5) (ha : App wr w' w0.heap.size 3 1 v4 v4' M.length 1 (M.map fun (k : Nat) => Value.int .i64 k) [.int .i64 (k : Nat)]) : LJ w0 w' mb nm L (M ++ [k]) X v4' v5 := by
  have hf := app_frZ ha
  refine ⟨by rw [List.length_append, List.map_append]; exact ha.own, h.al.fr hf fun g hg hm => ?_, h.mm.fr hf fun hm => h.mm.neq h.i4 (by simpa using hm), h.fr.next hf fun i hi hlt => ?_, h.hmb⟩
  · have hv : v4.ownBlock = some g := by simpa using hm
    rcases hg with hg | ⟨x, hx, hg⟩
    · exact own_neR h.i4 h.al.row (by decide) hv hg
    · exact own_neR h.i4 (h.al.dat x hx) (by decide) hv hg
  · have := (own_lt h.i4 (g := i) (by simpa using hi)).1
    omega
theorem LJ.app5 {w0 wr w' : World} {mb nm : Nat} {L M : List Nat} {X : List BI} {v4 v5 v5' : Value} {y : BI} (h : LJ w0 wr mb nm L M X v4 v5) (hy : wr.ownsRow w0.heap.size 5 1 y.v 25 ((pDa y.d).map B8)) (ha : App wr w' w0.heap.size 73 4 v5 v5' X.length 1 (biCells X) (biC y)) : LJ w0 w' mb nm L M (X ++ [y]) v4 v5' := by
  have hf := app_frZ ha
  refine ⟨own_fr h.i4 hf fun g hg hm => own_neR h.i4 h.al.row (by decide) hg (by simpa using hm), h.al.app hy ha, h.mm.fr hf fun hm => h.mm.neq h.al.row (by simpa using hm), h.fr.next hf fun i hi hlt => ?_, h.hmb⟩
  have := (own_lt h.al.row (g := i) (by simpa using hi)).1
  omega
end Go.Proofs.YtkcipbjikimlfaaDoor
