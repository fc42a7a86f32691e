/- Frames: the walk of FrameOwn. -/
import Derived.Test.YtkgfdcagninphaaDoorFrL
import Derived.Deep.RegionHeld3
namespace Go.Proofs.YtkgfdcagninphaaDoor
open Go.RowKit
attribute [local go_sem ↓] Go.wp_at_zero Go.wp_at_succ
theorem ee_lt : (238 : Nat) < 256 := by decide
theorem dd_lt : (221 : Nat) < 256 := by decide
theorem spl_two (T : UInt8) (d : List UInt8) (h : d.length ≤ 1048576) : spl (fB T d ++ fB T d) = ([(T, d), (T, d)], 0) := by
  have hr := run_packed [(T, d), (T, d)] (by intro f hf; simp at hf; subst hf; exact h)
  have e : packed [(T, d), (T, d)] = fB T d ++ fB T d := by unfold packed; simp
  rw [e] at hr
  unfold spl
  rw [hr]
  simp
/-- the row of two frames, the first's data changing -/
def RowX (w : World) (g : Nat) (z : Int) (v0 v1 : Value) : Prop := ∃ cur : Array Value, w.heap[g]? = some (.cells cur 25) ∧ cur[1]? = some v0 ∧ cur[2]? = some (.int .i64 z) ∧ cur[3]? = some v1
theorem RowX.of {w : World} {B g vc : Nat} {x y : FI} (h : FrL w B (.slice (some ⟨g, 0, none⟩) 2 vc) [x, y]) : RowX w g (I8 y.t) x.v y.v := by
  rcases h.row.2 with ⟨e, _⟩ | ⟨g', cap, cur, e1, _, hh, hn, _, hs, ht⟩
  · cases e
  · simp only [Value.slice.injEq, Option.some.injEq, Addr.mk.injEq] at e1
    obtain ⟨⟨rfl, _⟩, _, rfl⟩ := e1
    have hget : ∀ j, j < 4 → cur[j]? = (fiCells [x, y])[j]? := by
      intro j hj
      rw [← ht, ← Array.getElem?_toList, List.getElem?_take_of_lt (by simpa using hj)]
    refine ⟨cur, hh, ?_, ?_, ?_⟩
    · rw [hget 1 (by decide)]; rfl
    · rw [hget 2 (by decide)]; rfl
    · rw [hget 3 (by decide)]; rfl
theorem RowX.cells {w : World} {g : Nat} {z : Int} {v0 v1 : Value} (h : RowX w g z v0 v1) : w.cell? ⟨g, 1, none⟩ = some v0 ∧ w.cell? ⟨g, 2, none⟩ = some (.int .i64 z) ∧ w.cell? ⟨g, 3, none⟩ = some v1 ∧ w.frozen? ⟨g, 1, none⟩ = false := by
  obtain ⟨cur, hh, h1, h2, h3⟩ := h
  exact ⟨(cell_of_row _ _ 1 _ _ _ hh).trans h1, (cell_of_row _ _ 2 _ _ _ hh).trans h2, (cell_of_row _ _ 3 _ _ _ hh).trans h3, frozen_of_row _ _ 1 _ _ hh⟩
theorem RowX.fr {S : List Nat} {w w' : World} {g : Nat} {z : Int} {v0 v1 : Value} (h : RowX w g z v0 v1) (hf : Fr S w w') (hg : g ∉ S) : RowX w' g z v0 v1 := by
  obtain ⟨cur, hh, h1, h2, h3⟩ := h
  exact ⟨cur, hf.obj hh hg, h1, h2, h3⟩
theorem RowX.set1 {w : World} {g : Nat} {z : Int} {v0 v1 : Value} (h : RowX w g z v0 v1) (u : Value) : RowX (w.setCell ⟨g, 1, none⟩ u) g z u v1 := by
  obtain ⟨cur, hh, h1, h2, h3⟩ := h
  refine ⟨_, heap_setCell_same w g 1 _ _ _ hh, ?_, ?_, ?_⟩
  · have : 1 < cur.size := (Array.getElem?_eq_some_iff.1 h1).1
    simp [this]
  · simpa using h2
  · simpa using h3
theorem RowX.ne {w : World} {g B n : Nat} {z : Int} {v0 v1 v : Value} (h : RowX w g z v0 v1) (ho : OwnB w B v n) : v.ownBlock ≠ some g := by
  obtain ⟨cur, hh, _⟩ := h
  obtain ⟨l, _, ho⟩ := ho
  exact own_ty ho hh (by decide)
theorem two_FI {X : List FI} {t : UInt8} {d : List UInt8} (h : X.map FI.fr = [(t, d), (t, d)]) : ∃ a c b e, X = [⟨t, a, c, d⟩, ⟨t, b, e, d⟩] := by
  match X, h with
  | [], h => simp at h
  | [x], h => simp at h
  | x :: y :: w :: r, h => simp at h
  | [x, y], h =>
    simp [FI.fr] at h
    obtain ⟨⟨rfl, rfl⟩, h2, h3⟩ := h
    refine ⟨x.a, x.c, y.a, y.c, ?_⟩
    cases x; cases y
    simp at h2 h3
    subst h2
    subst h3
    rfl
set_option maxRecDepth 100000 in
set_option maxHeartbeats 3200000 in
theorem frameOwn_walk (z : Int) (a : Option Addr) (c : Nat) (l : List UInt8) (w : World) (hl : l.length ≤ 140737488351300) (hno : a = none → c = 0) (hb : Bytes w a l) (hn : Nib w) :
    Calls Tryd.prog 8 #[.agg #[.int .i64 z, .slice a l.length c]] w fun e w' => e = .returned (.bool true) ∧ Fr [] w w' := by
  have HN := Lib.hid hn
  have HNO := Lib.hid hno
  have HB := Lib.hid hb
  clear hn hno hb
  go_enter Tryd.func8, Tryd.ntmps8
  go_wp2_with fail
  obtain ⟨wa, hwa⟩ : ∃ wa, wa = w.alloc (.cells #[.int .i64 z, .slice a l.length c] 25) := ⟨_, rfl⟩
  rw [← hwa]
  have HFA := Lib.hid (show Fr [] w wa by rw [hwa]; exact (Fr.refl _ _).alloc _)
  have HBA := Lib.hid (show wa.heap[w.heap.size]? = some (.cells #[.int .i64 z, .slice a l.length c] 25) by rw [hwa]; exact heap_alloc_new w _)
  clear hwa
  refine (speaks19 wa (nib_keep HN.out HFA.out)).mono ?_
  rintro e w1 ⟨rfl, hf1⟩
  have HF1 := Lib.hid (HFA.out.trans hf1)
  have hb1 := hf1.obj HBA.out (by simp)
  have HB1 := Lib.hid hb1
  obtain ⟨x0, x1⟩ := duo hb1
  obtain ⟨E, hE⟩ : ∃ E, E = errP z l := ⟨_, rfl⟩
  obtain ⟨FL, hFL⟩ : ∃ FL, FL = fL z l := ⟨_, rfl⟩
  obtain ⟨n, hnn⟩ : ∃ n, n = FL.length := ⟨_, rfl⟩
  have hn9 : n ≤ 1048585 := by rw [hnn, hFL]; exact fL_length z l
  have HE := Lib.hid hE
  have HFL := Lib.hid hFL
  have HNN := Lib.hid hnn
  clear hf1 hb1 hE hFL hnn
  go_wp2_with fail
  refine (refPack_any z a c l w1 hl HNO.out (HB.out.keep HF1.out)).mono ?_
  rintro e w2 ⟨a2, c2, rfl, ho2, hf2⟩
  rw [← HE.out, ← HFL.out, ← HNN.out]
  rw [← HFL.out] at ho2
  have HW := Lib.hid ho2
  have HF2 := Lib.hid (HF1.out.trans hf2)
  have hb2 := hf2.obj HB1.out (by simp)
  have HB2 := Lib.hid hb2
  clear x0 x1
  obtain ⟨x0, x1⟩ := duo hb2
  clear ho2 hf2 hb2
  go_wp2_with fail
  refine (Pack_any z a c l w2 hl HNO.out (HB.out.keep HF2.out) (nib_keep HN.out HF2.out)).mono ?_
  rintro e w3 ⟨a3, c3, rfl, ho3, hf3⟩
  rw [← HE.out, ← HFL.out, ← HNN.out]
  rw [← HFL.out] at ho3
  have HA := Lib.hid ho3
  have HW3 := Lib.hid (own_fr HW.out hf3 (by simp))
  have HF3 := Lib.hid (HF2.out.trans hf3)
  have hb3 := hf3.obj HB2.out (by simp)
  have HB3 := Lib.hid hb3
  clear x0 x1
  obtain ⟨x0, x1⟩ := duo hb3
  have hf3s := hf3.size
  clear ho3 hf3 hb3
  go_wp2_with fail
  refine (Pack_any z a c l w3 hl HNO.out (HB.out.keep HF3.out) (nib_keep HN.out HF3.out)).mono ?_
  rintro e w4 ⟨a4, c4, rfl, ho4, hf4⟩
  rw [← HE.out, ← HFL.out, ← HNN.out]
  rw [← HFL.out] at ho4
  have HB4 := Lib.hid ho4
  have HW4 := Lib.hid (own_fr HW3.out hf4 (by simp))
  have HA4 := Lib.hid (own_fr HA.out hf4 (by simp))
  have HF4 := Lib.hid (HF3.out.trans hf4)
  have HBX := Lib.hid (hf4.obj HB3.out (by simp))
  obtain ⟨S, hS⟩ : ∃ S, S = (Value.slice a3 n c3).ownBlock.toList := ⟨_, rfl⟩
  have hSA : ∀ i ∈ S, w2.heap.size ≤ i ∧ i < w3.heap.size := by
    intro i hi
    rw [hS] at hi
    have h := HA.out
    rw [← HNN.out] at h
    exact own_lt h (by simpa using hi)
  have HSA := Lib.hid hSA
  have HSS := Lib.hid hS
  have HSW : Hid (∀ g, (Value.slice a2 FL.length c2).ownBlock = some g → g ∉ S) := Lib.hid fun g hg hm => by
    have h1 := (own_lt HW.out hg).2
    have h2 := (hSA g hm).1
    omega
  have HSB : Hid (∀ g, (Value.slice a4 FL.length c4).ownBlock = some g → g ∉ S) := Lib.hid fun g hg hm => by
    have h1 := (own_lt HB4.out hg).1
    have h2 := (hSA g hm).2
    omega
  have h1w : w.heap.size < w2.heap.size := by have h := (Array.getElem?_eq_some_iff.1 HB2.out).1; exact h
  have hbS : w.heap.size ∉ S := fun hm => by have := (hSA _ hm).1; omega
  have hOA : OwnB w4 w2.heap.size (.slice a3 n c3) n := by
    have h := OwnB.of HA4.out
    rwa [← HNN.out] at h
  have HOA := Lib.hid hOA
  have HBS := Lib.hid hbS
  have HSZ2 := Lib.hid (show w2.heap.size ≤ w4.heap.size from Nat.le_trans hf3s hf4.size)
  clear ho4 hf4 hS hSA hbS x0 x1 hOA hf3s
  go_wp2_with fail
  go_loopw [35] (fun i wr => ∃ k : Nat, k ≤ n ∧ i = .int .i64 k ∧ Fr S w4 wr ∧ OwnB wr w2.heap.size (.slice a3 n c3) n) (fun i _ => n - (intOf i).toNat)
  case atStart => exact ⟨0, by omega, rfl, Fr.refl _ _, HOA.out⟩
  case round =>
    obtain ⟨k, hk, rfl, hf, ho⟩ := hrel
    by_cases hlt : k < n
    · obtain ⟨g, rfl, hg, _⟩ := ho.addr (by omega)
      obtain ⟨⟨y, hy⟩, hz⟩ := ho.cell hlt
      have HFR := Lib.hid hf
      have HOR := Lib.hid ho
      clear hf ho
      go_wp2
      go_roundw
      case rel =>
        refine ⟨k + 1, by omega, by go_num, HFR.out.setCell (by intro _; rw [HSS.out]; simp [Value.ownBlock]) _, HOR.out.setN k 238 ee_lt⟩
      case measure => simp [intOf] <;> omega
    · have HFR := Lib.hid hf
      have HOR := Lib.hid ho
      obtain ⟨la, hla, hown⟩ := ho
      have HLA := Lib.hid (own_fr hown ((Fr.refl [] wr).alloc (.cells #[.int .u8 238, .int .u8 238, .int .u8 238, .int .u8 238] 5)) (by simp))
      have HLL := Lib.hid hla
      clear hf hown hla
      go_wp2_with (at_builtin; refine wpList_apB _ rfl _ _ 23 rfl w2.heap.size 5 Tryd.underlying23 info8 (.slice a3 n c3) la rfl (by rw [HLL.out]; exact HLA.out) (some ⟨wr.heap.size, 0, none⟩) 4 4 (lb [238, 238, 238, 238]) rfl rfl (Bytes.lit [238, 238, 238, 238] rfl rfl rfl) (fun h => by cases h) (by rw [HLL.out]; omega) (by have := HFR.out.size; have := HF4.out.size; simp; have := HSZ2.out; omega) ?_; intro v5 w5 happ; have HF5 := Lib.hid ((HFR.out.alloc (.cells #[.int .u8 238, .int .u8 238, .int .u8 238, .int .u8 238] 5)).trans (happ.fr.mono (by intro i hi _; rw [HSS.out]; exact hi))); clear happ)
      have HB5 := Lib.hid (own_fr HB4.out HF5.out HSB.out)
      have HW5 := Lib.hid (own_fr HW4.out HF5.out HSW.out)
      have HX5 := Lib.hid (HF5.out.obj HBX.out HBS.out)
      have HFW := Lib.hid (HF4.out.next HF5.out (by intro i hi hlt; have := (HSA.out i hi).1; omega))
      have hs := same_any a4 a2 c4 c2 FL FL w5 (spl_none HB5.out) (spl_none HW5.out) (own_by HB5.out).1 (own_by HW5.out).1
      rw [beq_self_eq_true, ← HNN.out] at hs
      have HS1 := Lib.hid hs
      clear hs HOR HFR HLA HLL HF5 HSB HSW HB4 HW4 HA4 HOA HSS HSA HBX HW3 HA HF3 HB3 HF2 HB2 HW HFA HBA HF1 HB1 HSZ2 HF4 HBS
      go_wp2_with fail
      refine HS1.out.mono ?_
      rintro e w6 ⟨rfl, rfl⟩
      clear HS1 HB5
      by_cases hE : E = 0
      · have hee : (E != 0) = false := by rw [hE]; rfl
        have hE0 : errP z l = 0 := by rw [← HE.out]; exact hE
        have hFL0 : FL = fB (UInt8.ofNat z.toNat) l := by rw [HFL.out]; exact fL_ok hE0
        have hz := errP_0 hE0
        obtain ⟨T, hT⟩ : ∃ T, T = UInt8.ofNat z.toNat := ⟨_, rfl⟩
        rw [← hT] at hFL0
        have hzT : I8 T = z := by rw [hT, I8_of_nat _ (by omega)]; omega
        have HSP := Lib.hid (spl_two T l hz.2)
        rw [← hFL0] at HSP
        have hln : n = l.length + 9 := by rw [HNN.out, hFL0, fB_length]
        have HLN := Lib.hid hln
        have HZT := Lib.hid hzT
        have hpos : 0 < n := by omega
        clear hE hE0 hFL0 hz hT hzT hln HE HFL
        go_wp2_with fail
        have hc := clone_any a2 c2 FL w5 (by rw [← HNN.out]; omega) (spl_none HW5.out) (own_by HW5.out).1
        rw [← HNN.out] at hc
        refine hc.mono ?_
        rintro e w6 ⟨v6, rfl, hv6⟩
        obtain ⟨g6, c6, rfl, hg6, _, _, hf6⟩ := hv6.bytes
        have ho6 := hv6.got.1
        have HO6 := Lib.hid ho6
        have HB6 := Lib.hid ((own_by HW5.out).1.keep hf6)
        have HN2 := Lib.hid (spl_none HW5.out)
        have HF6 := Lib.hid (HFW.out.trans hf6)
        have HX6 := Lib.hid (hf6.obj HX5.out (by simp))
        have HS6 := Lib.hid hf6.size
        clear hc hv6 hf6 ho6
        rw [← HNN.out]
        go_wp2_with (at_builtin; refine wpList_apB _ rfl _ _ 23 rfl w5.heap.size 5 Tryd.underlying23 info8 (.slice (some ⟨g6, 0, none⟩) n c6) FL (by rw [HNN.out]; rfl) (by have h := HO6.out; rw [← HNN.out] at h ⊢; exact h) a2 n c2 FL rfl HNN.out.symm HB6.out HN2.out (by rw [← HNN.out]; omega) HS6.out ?_; intro v7 w7 happ; have HA7 := Lib.hid happ; obtain ⟨a7, c7, rfl⟩ := own_sl happ.own; have HW57 := Lib.hid (Nat.le_trans HS6.out happ.fr.size); have HF7 := Lib.hid (HF6.out.next happ.fr (by intro i hi hlt; have := HFW.out.size; simp [Value.ownBlock] at hi; omega)); have HX7 := Lib.hid (happ.fr.obj HX6.out (by have := (Array.getElem?_eq_some_iff.1 HX5.out).1; simp [Value.ownBlock]; omega)); clear happ)
        have ho7 := HA7.out.own
        have hS := Split_any a7 c7 (FL ++ FL) w7 (by rw [List.length_append, ← HNN.out]; omega) (own_by ho7).2 (spl_none ho7) (own_by ho7).1 (nib_keep HN.out HF7.out)
        have hO7 := OwnB.of ho7
        rw [List.length_append, ← HNN.out] at hS hO7
        rw [← HNN.out]
        obtain ⟨N, hNN⟩ : ∃ N, N = n + n := ⟨_, rfl⟩
        rw [← hNN] at hS hO7 ⊢
        have HNN2 := Lib.hid hNN
        have HS := Lib.hid hS
        have HO7 := Lib.hid hO7
        obtain ⟨S7, hS7⟩ : ∃ S7, S7 = (Value.slice a7 N c7).ownBlock.toList := ⟨_, rfl⟩
        have HS7 := Lib.hid hS7
        have HL7 : Hid (∀ i ∈ S7, w5.heap.size ≤ i ∧ i < w7.heap.size) := Lib.hid (by intro i hi; rw [hS7] at hi; exact hO7.lt (by simpa using hi))
        have hNb : N ≤ 2097170 := by omega
        have hNp : 0 < N := by omega
        have HS5 := Lib.hid HFW.out.size
        have hxw := (Array.getElem?_eq_some_iff.1 HX5.out).1
        clear ho7 hS hO7 hNN hS7 HA7 HO6 HB6 HN2 HF6 HX6 HS6
        refine HS.out.mono ?_
        rintro e w8 ⟨v8, X8, rfl, hX8, hXm, hf8⟩
        rw [HSP.out] at hXm ⊢
        obtain ⟨xa, xc, ya, yc, rfl⟩ := two_FI hXm
        obtain ⟨va, vc, rfl⟩ := own_sl hX8.row
        have HXL := Lib.hid hX8
        have HF8 := Lib.hid (HF7.out.trans hf8)
        have HX8 := Lib.hid (hf8.obj HX7.out (by simp))
        have HO8 := Lib.hid (HO7.out.keep hf8 (by simp))
        have HSZ8 := Lib.hid hf8.size
        clear HS hX8 hXm hf8 HO7
        go_wp2_with fail
        go_loopw [62] (fun i wr => ∃ k : Nat, k ≤ N ∧ i = .int .i64 k ∧ Fr S7 w8 wr ∧ OwnB wr w5.heap.size (.slice a7 N c7) N) (fun i _ => N - (intOf i).toNat)
        case atStart => exact ⟨0, by omega, rfl, Fr.refl _ _, HO8.out⟩
        case round =>
          obtain ⟨k, hk, rfl, hf, ho⟩ := hrel
          by_cases hlt : k < N
          · obtain ⟨g, rfl, hg, _⟩ := ho.addr (by omega)
            obtain ⟨⟨y, hy⟩, hz⟩ := ho.cell hlt
            have HFR := Lib.hid hf
            have HOR := Lib.hid ho
            clear hf ho
            go_wp2
            go_roundw
            case rel =>
              refine ⟨k + 1, by omega, by go_num, HFR.out.setCell (by intro _; rw [HS7.out]; simp [Value.ownBlock]) _, HOR.out.setN k 221 dd_lt⟩
            case measure => simp [intOf] <;> omega
          · have HX9 := Lib.hid (HXL.out.fr hf (fun g hg hm => by have h1 := (HXL.out.lt.1 g hg).1; have h2 := (HL7.out g hm).2; omega) (fun x hx g hg hm => by have h1 := (HXL.out.lt.2 x hx g hg).1; have h2 := (HL7.out g hm).2; omega))
            have HB9 := Lib.hid (hf.obj HX8.out (fun hm => by have := (HL7.out _ hm).1; omega))
            have HF9 := Lib.hid (HF8.out.next hf (by intro i hi hlt; have := (HL7.out i hi).1; have := HS5.out; omega))
            clear hf ho
            obtain ⟨gx, rfl, hgx⟩ := own_pos HX9.out.row (by simp)
            have hrx : RowX wr gx z (.slice xa l.length xc) (.slice ya l.length yc) := by
              have h := RowX.of HX9.out
              rw [HZT.out] at h
              exact h
            have hox : OwnB wr w7.heap.size (.slice xa l.length xc) l.length := OwnB.of (HX9.out.dat _ List.mem_cons_self)
            have hoy := HX9.out.dat _ (List.mem_cons_of_mem _ List.mem_cons_self)
            have hdis := (List.pairwise_cons.1 HX9.out.dis).1 _ List.mem_cons_self
            obtain ⟨S0, hS0⟩ : ∃ S0, S0 = (Value.slice xa l.length xc).ownBlock.toList := ⟨_, rfl⟩
            have hS0b : ∀ i ∈ S0, w7.heap.size ≤ i := fun i hi => (hox.lt (by rw [hS0] at hi; simpa using hi)).1
            have hgS0 : gx ∉ S0 := fun hm => hrx.ne hox (by rw [hS0] at hm; simpa using hm)
            have hyS0 : ∀ g, (Value.slice ya l.length yc).ownBlock = some g → g ∉ S0 := fun g hg hm => hdis g (show (Value.slice xa l.length xc).ownBlock = some g by rw [hS0] at hm; simpa using hm) hg
            have hbS0 : w.heap.size ∉ S0 := fun hm => by
              have h1 := hS0b _ hm
              have h2 := (Array.getElem?_eq_some_iff.1 HX7.out).1
              omega
            have h75 : w5.heap.size ≤ w7.heap.size := HW57.out
            obtain ⟨w9, hw9⟩ : ∃ w9, w9 = wr := ⟨_, rfl⟩
            rw [← hw9] at hrx hox hoy HB9 HF9 ⊢
            have HRX := Lib.hid hrx
            have HOX := Lib.hid hox
            have HOY := Lib.hid hoy
            have HDI := Lib.hid hdis
            have HS0 := Lib.hid hS0
            have HS0B := Lib.hid hS0b
            have HGS0 := Lib.hid hgS0
            have HYS0 := Lib.hid hyS0
            have HBS0 := Lib.hid hbS0
            obtain ⟨q1, -, -, -⟩ := hrx.cells
            clear hw9 hrx hox hoy hdis hS0 hS0b hgS0 hyS0 hbS0 HX9 HXL HX8 HO8 HF8 HX7 HF7 HSZ8
            go_wp2_with fail
            clear q1
            go_loopw [77] (fun i wr => ∃ k : Nat, k ≤ l.length ∧ i = .int .i64 k ∧ Fr S0 w9 wr ∧ OwnB wr w7.heap.size (.slice xa l.length xc) l.length) (fun i _ => l.length - (intOf i).toNat)
            case atStart => exact ⟨0, by omega, rfl, Fr.refl _ _, HOX.out⟩
            case round =>
              obtain ⟨k, hk, rfl, hf, ho⟩ := hrel
              by_cases hlt : k < l.length
              · obtain ⟨g, rfl, hg, _⟩ := ho.addr (by omega)
                obtain ⟨⟨y, hy⟩, hz⟩ := ho.cell hlt
                obtain ⟨q1, -, -, -⟩ := (HRX.out.fr hf HGS0.out).cells
                have HFR := Lib.hid hf
                have HOR := Lib.hid ho
                clear hf ho
                go_wp2
                go_roundw
                case rel =>
                  refine ⟨k + 1, by omega, by go_num, HFR.out.setCell (by intro _; rw [HS0.out]; simp [Value.ownBlock]) _, HOR.out.setN k 238 ee_lt⟩
                case measure => simp [intOf] <;> omega
              · have HJ0 : Hid (RowX wr gx z (.slice xa (l.length + 0) xc) (.slice ya l.length yc) ∧ OwnB wr w7.heap.size (.slice xa (l.length + 0) xc) (l.length + 0) ∧ wr.ownsRow w7.heap.size 5 1 (.slice ya l.length yc) l.length (l.map B8) ∧ (∀ g, (Value.slice xa (l.length + 0) xc).ownBlock = some g → (Value.slice ya l.length yc).ownBlock ≠ some g) ∧ Fr [] w wr ∧ wr.heap[w.heap.size]? = some (.cells #[.int .i64 z, .slice a l.length c] 25)) :=
                  Lib.hid ⟨HRX.out.fr hf HGS0.out, ho, own_fr HOY.out hf HYS0.out, fun g hg => HDI.out g hg, HF9.out.next hf (by intro i hi hlt; have := HS0B.out i hi; have := HS5.out; omega), hf.obj HB9.out HBS0.out⟩
                clear hf ho HRX HOX HOY HDI HF9 HB9 HGS0 HYS0 HBS0 HS0 HS0B
                go_wp2_with fail
                go_loopw [15] (fun i wr => ∃ k : Nat, k ≤ 20 ∧ i = .int .i64 k ∧ ∃ av cv, RowX wr gx z (.slice av (l.length + k) cv) (.slice ya l.length yc) ∧ OwnB wr w7.heap.size (.slice av (l.length + k) cv) (l.length + k) ∧ wr.ownsRow w7.heap.size 5 1 (.slice ya l.length yc) l.length (l.map B8) ∧ (∀ g, (Value.slice av (l.length + k) cv).ownBlock = some g → (Value.slice ya l.length yc).ownBlock ≠ some g) ∧ Fr [] w wr ∧ wr.heap[w.heap.size]? = some (.cells #[.int .i64 z, .slice a l.length c] 25)) (fun i _ => 20 - (intOf i).toNat)
                case atStart => exact ⟨0, by omega, rfl, _, _, HJ0.out⟩
                case round =>
                  obtain ⟨k4, hk4, rfl, av, cv, hrx, hox, hoy, hdi, hfw, hbx⟩ := hrel
                  by_cases hlt4 : k4 < 20
                  · obtain ⟨q1, -, -, qz⟩ := hrx.cells
                    have hgl : gx < wr.heap.size := by obtain ⟨cur, hh, _⟩ := hrx; exact (Array.getElem?_eq_some_iff.1 hh).1
                    have hbl : w.heap.size < wr.heap.size := (Array.getElem?_eq_some_iff.1 hbx).1
                    have HNE := Lib.hid (hrx.ne hox)
                    obtain ⟨la, hla, hown⟩ := hox
                    have HLA := Lib.hid hla
                    have HLN2 := Lib.hid (show (la ++ lb [238]).length = l.length + (k4 + 1) by rw [List.length_append, hla]; rfl)
                    have HF1 := Lib.hid ((Fr.refl [] wr).alloc (.cells #[.int .u8 238] 5))
                    have HOW := Lib.hid (own_fr hown HF1.out (by simp))
                    have HRX := Lib.hid (hrx.fr HF1.out (by simp))
                    have HOY := Lib.hid (own_fr hoy HF1.out (by simp))
                    have HBX := Lib.hid (HF1.out.obj hbx (by simp))
                    have HDI := Lib.hid hdi
                    have HFW2 := Lib.hid (hfw.trans HF1.out)
                    have HBB := Lib.hid (show ∀ i, (Value.slice av (l.length + k4) cv).ownBlock = some i → w7.heap.size ≤ i from fun i hi => (own_lt hown hi).1)
                    have HWX := Lib.hid (show w.heap.size < w7.heap.size from (by have := HS5.out; have := HW57.out; omega))
                    have hwl : w.heap.size < w5.heap.size := hxw
                    clear hrx hoy hdi hfw hbx hla hown
                    go_wp2_with (at_builtin; refine wpList_apB _ rfl _ _ 23 rfl w7.heap.size 5 Tryd.underlying23 info8 (.slice av (l.length + k4) cv) la rfl (by rw [HLA.out]; exact HOW.out) (some ⟨wr.heap.size, 0, none⟩) 1 1 (lb [238]) rfl rfl (Bytes.lit [238] rfl rfl rfl) (fun h => by cases h) (by rw [HLA.out]; omega) (by simp; omega) ?_; intro v' w' happ; obtain ⟨av', cv', e1⟩ := own_sl happ.own; rw [HLN2.out] at e1; subst e1; have HAP := Lib.hid happ; have HRX2 := Lib.hid (HRX.out.fr happ.fr (fun hm => HNE.out (by simpa using hm))); clear happ; obtain ⟨r1, -, -, rz⟩ := HRX2.out.cells)
                    go_roundw
                    case rel =>
                      have ha := HAP.out
                      have hs1 : Fr [gx] w' (w'.setCell ⟨gx, 1, none⟩ (.slice av' (l.length + (k4 + 1)) cv')) := (Fr.refl [gx] w').setCell (by simp) _
                      have hyn : ∀ g, (Value.slice ya l.length yc).ownBlock = some g → g ∉ (Value.slice av (l.length + k4) cv).ownBlock.toList := fun g hg hm => HDI.out g (by simpa using hm) hg
                      have hoy' := own_fr HOY.out ha.fr hyn
                      have hbw : w.heap.size ∉ (Value.slice av (l.length + k4) cv).ownBlock.toList := fun hm => by have := HBB.out _ (by simpa using hm); have := HWX.out; omega
                      have hbx' := ha.fr.obj HBX.out hbw
                      have hown := ha.own
                      rw [HLN2.out] at hown
                      have hnx : (Value.slice av' (l.length + (k4 + 1)) cv').ownBlock ≠ some gx := HRX2.out.ne ⟨_, HLN2.out, hown⟩
                      refine ⟨k4 + 1, by omega, by go_num, av', cv', HRX2.out.set1 _, ⟨_, HLN2.out, own_fr hown hs1 (fun g hg hm => hnx (by rw [hg]; simpa using hm))⟩, own_fr hoy' hs1 (fun g hg hm => ?_), ?_, ?_, hs1.obj hbx' (by simp; have := HWX.out; omega)⟩
                      · have h1 := HRX2.out
                        exact h1.ne ⟨_, rfl, hoy'⟩ (by rw [hg]; simpa using hm)
                      · intro g hg e
                        rcases ha.blk with hb | ⟨g', hb, hlt⟩
                        · exact HDI.out g (hb ▸ hg) e
                        · rw [hb] at hg
                          cases hg
                          have := (own_lt HOY.out e).2
                          omega
                      · exact (HFW2.out.next ha.fr (by intro i hi hlt; have := HBB.out i (by simpa using hi); have := HWX.out; omega)).setCell (by intro h; have := HWX.out; simp at h; omega) _
                    case measure => simp [intOf] <;> omega
                  · obtain ⟨-, q2, q3, -⟩ := hrx.cells
                    obtain ⟨b0, b1⟩ := duo hbx
                    have HF := Lib.hid hfw
                    have hS := Same_any z z ya a yc c l l wr.drew (spl_none hoy) HNO.out (show Bytes wr.drew ya l from ((own_by hoy).1.keep ((Fr.refl [] wr).drew))) ((HB.out.keep hfw).keep ((Fr.refl [] wr).drew))
                    rw [beq_self_eq_true, beq_self_eq_true] at hS
                    have HS := Lib.hid hS
                    clear hrx hox hoy hdi hfw hbx hS
                    go_upto_region 34 with fail
                    have b0d : wr.drew.cell? ⟨w.heap.size, 0, none⟩ = some (.int .i64 z) := b0
                    have b1d : wr.drew.cell? ⟨w.heap.size, 1, none⟩ = some (.slice a l.length c) := b1
                    have q2d : wr.drew.cell? ⟨gx, 2, none⟩ = some (.int .i64 z) := q2
                    have q3d : wr.drew.cell? ⟨gx, 3, none⟩ = some (.slice ya l.length yc) := q3
                    go_region_held3 (fun w' => w'.cell? ⟨w.heap.size, 0, none⟩ = some (.int .i64 z) ∧ w'.cell? ⟨w.heap.size, 1, none⟩ = some (.slice a l.length c) ∧ w'.cell? ⟨gx, 2, none⟩ = some (.int .i64 z) ∧ w'.cell? ⟨gx, 3, none⟩ = some (.slice ya l.length yc))
                      (first
                        | with_reducible assumption
                        | exact ⟨b0d, b1d, q2d, q3d⟩
                        | exact ⟨hA.cell b0d (by simp), hA.cell b1d (by simp), hA.cell q2d (by simp), hA.cell q3d (by simp)⟩)
                      (first
                        | (go_at_call 16; (with_reducible refine HS.out.mono ?_); rintro e wA ⟨rfl, hA⟩))
                    all_goals go_wp2
                    all_goals go_ret
                    all_goals exact ⟨rfl, (HF.out.drew).trans hA⟩
      · have hee : (E != 0) = true := by rw [bne_iff_ne]; exact hE
        go_wp2
        go_ret
        exact ⟨rfl, HFW.out⟩
end Go.Proofs.YtkgfdcagninphaaDoor
