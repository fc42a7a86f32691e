/- What the records' laws ask first: bytes that the document fixes. -/
import Derived.Test.YtmekplamjlnhcaaRecN
import Derived.Lib.AppendZeros
import Derived.Lib.SlBytesConst
namespace Go.Proofs.Ytmekplamjlnhcaa
open Go.RowKit
attribute [local go_sem ↓] Go.wp_at_zero Go.wp_at_succ
/-- append(b, make([]byte, n)...) where there is no room -/
theorem run_append_grow_zeros {P : Program} (w : World) (t tn ty e : TypeId) (i : TypeInfo) (z : Value) (k kn : IntKind) (ht : P.underlying t = some (.slice e)) (htn : P.underlying tn = some (.int kn)) (hi : P.info? e = some i) (hz : i.zero = some z)
    (b : Addr) (sLen sCap : Nat) (olds : List Value) (hlo : olds.length = sLen * i.size) (holds : ∀ j v, olds[j]? = some v → w.cell? (b.add j) = some v)
    (n : Nat) (hg : sCap < sLen + n) (hs : 0 < i.size) (h0 : 0 < n) (h63 : ((sLen + n : Nat) : Int) ≤ 9223372036854775807) (h48 : n * i.bytes ≤ 281474976710656) (hfit : Builtin.nextslicecap (sLen + n) sCap * i.bytes ≤ 281474976710656) :
    (Builtin.append_ #[t, tn] ty #[.slice (some b) sLen sCap, .int k n]).run P w =
      .ok (.slice (some ⟨w.heap.size, 0, none⟩) (sLen + n) (grownCap w (sLen + n) sCap e))
        (w.drew.alloc (.cells (olds.toArray ++ Builtin.zeroCells z.cells n ++ Builtin.zeroCells z.cells (grownCap w (sLen + n) sCap e - (sLen + n))) e)) := by
  have hw : IntKind.i64.wrap (n : Int) = n := by rw [IntKind.wrap_i64]; omega
  have hn : ¬ (sLen + n ≤ sCap) := by omega
  have h63' : ¬ (9223372036854775807 < ((sLen : Int) + (n : Int))) := by omega
  have h48' : ¬ (281474976710656 < Builtin.nextslicecap (sLen + n) sCap * i.bytes) := by omega
  have h48i : ¬ (281474976710656 < (n : Int) * (i.bytes : Int)) := by
    rw [← Int.natCast_mul]
    omega
  have hneg : ¬ ((n : Int) < 0) := by omega
  have hns : ¬ (n * i.size = 0) := Nat.mul_ne_zero (by omega) (by omega)
  have hns2 : ¬ n = 0 := by omega
  have hfo := run_firstCells_some (P := P) w.drew i.size sLen b sLen sCap olds hlo (by simpa using holds)
  simp [Builtin.append_, run_underlying ht, run_underlying htn, sizeOf, typeInfo, zeroValue, hi, hz, asInt, asIntOf, hw, hn, hneg, hns, hns2, h63', h48', h48i, Question.forced, hfo, newRow, grownCap]
/-- .. for bytes: what stands there is new, and reads so -/
theorem run_zeros8 (w : World) (ty : TypeId) (a : Addr) (c n : Nat) (k : IntKind) (l : List UInt8) (hc : c < l.length + n) (h0 : 0 < n) (hl : l.length + n ≤ 1000) (hb : Bytes w (some a) l) :
    ∃ cap w', (Builtin.append_ #[25, 3] ty #[.slice (some a) l.length c, .int k n]).run Try.prog w = .ok (.slice (some ⟨w.heap.size, 0, none⟩) (l.length + n) cap) w' ∧ l.length + n ≤ cap ∧ Bytes w' (some ⟨w.heap.size, 0, none⟩) (l ++ List.replicate n 0) ∧ Fr [] w w' := by
  obtain ⟨i, hi, hz, hsz, hby⟩ := info_parts info8
  have hlo : (l.map B8).length = l.length * i.size := by rw [hsz]; simp
  refine ⟨_, _, run_append_grow_zeros (P := Try.prog) w 25 3 ty 5 i (.int .u8 0) k .i64 Try.underlying25 Try.underlying3 hi hz a l.length c (l.map B8) hlo hb.news n hc (by omega) h0 (by omega) (by rw [hby]; omega) (by rw [hby]; exact growslice_fits (by omega) (by omega)), grownCap_ge _ _ _ _, ?_, ((Fr.refl _ _).drew).alloc _⟩
  have hI : I8 0 = 0 := by decide +kernel
  have e1 : (Value.int .u8 0) = B8 0 := by unfold B8; rw [hI]
  refine Or.inr ⟨w.heap.size, 0, rfl, fun j hj => ?_⟩
  have hnew := fun o => (show (w.drew.alloc o).heap[w.heap.size]? = some o from heap_alloc_new w.drew o)
  rw [Nat.zero_add, cell_of_row _ _ j _ _ _ (hnew _)]
  have hz0 : (Builtin.zeroCells (Value.int .u8 0).cells n).toList = List.replicate n (B8 0) := by
    rw [← e1]
    apply List.ext_getElem?
    intro q
    by_cases hq : q < n <;> simp [Builtin.zeroCells, Value.cells, Nat.mod_one, List.getElem?_replicate, hq]
  have hlen : j < l.length + n := by simpa using hj
  have e2 : ((l.map B8).toArray ++ Builtin.zeroCells (Value.int .u8 0).cells n) = ((l ++ List.replicate n 0).map B8).toArray := by
    apply Array.ext'
    rw [Array.toList_append, hz0]
    simp
  rw [e2, Array.getElem?_append_left (by simpa using hlen), List.getElem?_toArray]
  simp only [List.getElem?_map, List.getD]
  rw [List.getElem?_eq_getElem hj]
  rfl
theorem sp_g : gFine ⟨false, 3, 1, 7, -1, 0, -1⟩ = true := by decide +kernel
theorem sp_gB : gB ⟨false, 3, 1, 7, -1, 0, -1⟩ = lb [0, 3, 0, 0, 0, 1, 0, 0, 0, 8, 0, 0, 0, 0, 0, 0, 0, 1, 0, 0, 0, 0] := by decide +kernel
/-- the slots of the node that speaks -/
def spS : List UInt8 := (List.replicate 48 0).set 5 9
theorem sp_n : nFine ⟨true, 2048, -1, [4], spS⟩ = true := by decide +kernel
theorem sp_len : (nB ⟨true, 2048, -1, [4], spS⟩).length = 65 := by decide +kernel
theorem sp_10 : (nB ⟨true, 2048, -1, [4], spS⟩).take 10 = lb [1, 0, 0, 8, 1, 0, 0, 0, 0, 5] := by decide +kernel
theorem sp_22 : I8 ((nB ⟨true, 2048, -1, [4], spS⟩).getD 22 0) = 9 := by decide +kernel
/-- the relationship that speaks -/
def spR : List UInt8 := lb [0, 0, 0, 3, 0, 0, 0, 4, 0, 5, 0, 0, 0, 0, 0, 0, 0, 2, 0, 0, 0, 0, 0, 0, 0, 0, 0, 0, 0, 7] ++ List.replicate 32 0
theorem sp_R : rFine (rDec spR) = true := by decide +kernel
theorem sp_Rl : spR.length = 62 := by decide +kernel
theorem sp_Rv : (rDec spR).live = true ∧ (rDec spR).fr = 3 ∧ (rDec spR).to = 4 ∧ (rDec spR).fp = -1 ∧ (rDec spR).tp = -1 ∧ (rDec spR).fn = 1 ∧ (rDec spR).tn = -1 ∧ (rDec spR).ty = 5 ∧ (rDec spR).ov = 6 := by decide +kernel
theorem sp_arr : (Array.replicate 48 (Value.int .u8 0)).setIfInBounds 5 (.int .u8 9) = (spS.map B8).toArray := by
  have h0 : B8 0 = .int .u8 0 := by unfold B8; rw [show I8 0 = 0 by decide +kernel]
  have h9 : B8 9 = .int .u8 9 := by unfold B8; rw [show I8 9 = 9 by decide +kernel]
  apply Array.ext'
  simp [spS, List.map_set, h0, h9]
theorem sp_sl : spS.length = 48 := by decide +kernel
set_option maxRecDepth 100000 in
set_option maxHeartbeats 1600000 in
theorem speaks15 (w : World) : Calls Try.prog 11 #[] w fun e w' => e = .returned (.bool true) ∧ Fr [] w w' := by
  go_enter Try.func11, Try.ntmps11
  go_wp2_with fail
  refine (PutGroup_yes false 3 1 7 (-1) 0 (-1) w sp_g).mono ?_
  rintro e w1 ⟨v, rfl, hv⟩
  rw [sp_gB] at hv
  obtain ⟨g, cap, rfl, hg, hlt, hbv, hfv⟩ := hv.bytes
  have HB1 := Lib.hid hbv
  have HF1 := Lib.hid hfv
  clear hv hbv hfv hg hlt
  have l22 : (lb [0, 3, 0, 0, 0, 1, 0, 0, 0, 8, 0, 0, 0, 0, 0, 0, 0, 1, 0, 0, 0, 0]).length = 22 := rfl
  rw [l22]
  go_wp2_with fail
  have h2 := same_any (some ⟨g, 0, none⟩) (some ⟨w1.heap.size, 0, none⟩) cap 22 (lb [0, 3, 0, 0, 0, 1, 0, 0, 0, 8, 0, 0, 0, 0, 0, 0, 0, 1, 0, 0, 0, 0]) (lb [0, 3, 0, 0, 0, 1, 0, 0, 0, 8, 0, 0, 0, 0, 0, 0, 0, 1, 0, 0, 0, 0]) (w1.alloc (.cells #[.int .u8 0, .int .u8 3, .int .u8 0, .int .u8 0, .int .u8 0, .int .u8 1, .int .u8 0, .int .u8 0, .int .u8 0, .int .u8 8, .int .u8 0, .int .u8 0, .int .u8 0, .int .u8 0, .int .u8 0, .int .u8 0, .int .u8 0, .int .u8 1, .int .u8 0, .int .u8 0, .int .u8 0, .int .u8 0] 5)) (fun h => by cases h) (fun h => by cases h) (HB1.out.keep ((Fr.refl _ _).alloc _)) (Bytes.lit [0, 3, 0, 0, 0, 1, 0, 0, 0, 8, 0, 0, 0, 0, 0, 0, 0, 1, 0, 0, 0, 0] rfl rfl rfl)
  rw [l22, beq_self_eq_true] at h2
  refine h2.mono ?_
  clear h2
  rintro e w2 ⟨rfl, hw2⟩
  have HF2 := Lib.hid (show Fr [] w w2 by rw [← hw2]; exact HF1.out.alloc _)
  clear hw2 HB1 l22
  have hmk : ∀ w, (Instr.makeSlice 25 (.int .i64 48) (.int .i64 48)).run Try.prog w = .ok (.slice (some ⟨w.heap.size, 0, none⟩) 48 48) (w.alloc (.cells (Array.replicate 48 (.int .u8 0)) 5)) := fun _ => by kernel_rfl
  go_wp2_with fail
  rw [sp_arr]
  obtain ⟨w3, hw3⟩ : ∃ w3, w3 = (w2.alloc (.cells (spS.map B8).toArray 5)).alloc (.cells #[.int .i64 4] 3) := ⟨_, rfl⟩
  rw [← hw3]
  have hf3 : Fr [] w2 w3 := by rw [hw3]; exact ((Fr.refl _ _).alloc _).alloc _
  have hs3 : Bytes w3 (some ⟨w2.heap.size, 0, none⟩) spS := by rw [hw3]; exact (Bytes.new spS rfl rfl).keep ((Fr.refl _ _).alloc _)
  have hi3 : Ints w3 (some ⟨w2.heap.size + 1, 0, none⟩) [4] := by rw [hw3]; exact Ints.new [4] (by simp) rfl
  have h4 := PutNode_yes true 2048 (-1) (some ⟨w2.heap.size + 1, 0, none⟩) 1 [4] (some ⟨w2.heap.size, 0, none⟩) 48 spS w3 hi3 (fun h => by cases h) hs3 sp_n
  rw [sp_sl] at h4
  have HF3 := Lib.hid (HF2.out.trans hf3)
  clear hw3 hf3 hs3 hi3 hmk
  refine h4.mono ?_
  clear h4
  rintro e w4 ⟨v, rfl, hv⟩
  have hcap : ∃ g cap, v = .slice (some ⟨g, 0, none⟩) 65 cap ∧ 65 ≤ cap ∧ Bytes w4 (some ⟨g, 0, none⟩) (nB ⟨true, 2048, -1, [4], spS⟩) := by
    obtain ⟨g, cap, rfl, _, _, hb, _⟩ := hv.bytes
    have := hv.cap
    rw [sp_len] at this ⊢
    exact ⟨g, cap, rfl, this, hb⟩
  obtain ⟨g3, cap3, rfl, hcap3, hb4⟩ := hcap
  have HF4 := Lib.hid (HF3.out.trans hv.fr)
  have hb10 : Bytes w4 (some ⟨g3, 0, none⟩) (lb [1, 0, 0, 8, 1, 0, 0, 0, 0, 5]) := by
    have := hb4.sub 0 10 (by rw [sp_len]; omega)
    rwa [List.drop_zero, sp_10] at this
  have hcell : w4.cell? ⟨g3, 22, none⟩ = some (.int .u8 9) := by
    obtain ⟨_, _, e1, hc1⟩ := hb4.at (by rw [sp_len]; omega)
    cases e1
    have := hc1 22 (by rw [sp_len]; omega)
    rw [Nat.zero_add] at this
    rw [this]
    unfold B8
    rw [sp_22]
  have hc10 : (10 : Int) ≤ (cap3 : Int) := by omega
  have HB10 := Lib.hid hb10
  clear hv hb4 hb10 hcap3
  go_wp2_with fail
  have l10 : (lb [1, 0, 0, 8, 1, 0, 0, 0, 0, 5]).length = 10 := rfl
  have h5 := same_any (some ⟨g3, 0, none⟩) (some ⟨w4.heap.size, 0, none⟩) cap3 10 (lb [1, 0, 0, 8, 1, 0, 0, 0, 0, 5]) (lb [1, 0, 0, 8, 1, 0, 0, 0, 0, 5]) (w4.alloc (.cells #[.int .u8 1, .int .u8 0, .int .u8 0, .int .u8 8, .int .u8 1, .int .u8 0, .int .u8 0, .int .u8 0, .int .u8 0, .int .u8 5] 5)) (fun h => by cases h) (fun h => by cases h) (HB10.out.keep ((Fr.refl _ _).alloc _)) (Bytes.lit [1, 0, 0, 8, 1, 0, 0, 0, 0, 5] rfl rfl rfl)
  rw [l10, beq_self_eq_true] at h5
  refine h5.mono ?_
  clear h5 l10
  rintro e w5 ⟨rfl, hw5⟩
  have HF5 := Lib.hid (show Fr [] w w5 by rw [← hw5]; exact HF4.out.alloc _)
  have hcell5 : w5.cell? ⟨g3, 22, none⟩ = some (.int .u8 9) := by rw [← hw5]; exact ((Fr.refl [] w4).alloc _).cell hcell (by simp)
  clear hw5 HB10 hcell
  obtain ⟨cap6, w6, hr6, hc6, hb6, hf6⟩ := run_zeros8 (w5.alloc (.cells #[.int .u8 0, .int .u8 0, .int .u8 0, .int .u8 3, .int .u8 0, .int .u8 0, .int .u8 0, .int .u8 4, .int .u8 0, .int .u8 5, .int .u8 0, .int .u8 0, .int .u8 0, .int .u8 0, .int .u8 0, .int .u8 0, .int .u8 0, .int .u8 2, .int .u8 0, .int .u8 0, .int .u8 0, .int .u8 0, .int .u8 0, .int .u8 0, .int .u8 0, .int .u8 0, .int .u8 0, .int .u8 0, .int .u8 0, .int .u8 7] 5)) 25 ⟨w5.heap.size, 0, none⟩ 30 32 .i64 (lb [0, 0, 0, 3, 0, 0, 0, 4, 0, 5, 0, 0, 0, 0, 0, 0, 0, 2, 0, 0, 0, 0, 0, 0, 0, 0, 0, 0, 0, 7]) (by decide) (by decide) (by decide) (Bytes.lit [0, 0, 0, 3, 0, 0, 0, 4, 0, 5, 0, 0, 0, 0, 0, 0, 0, 2, 0, 0, 0, 0, 0, 0, 0, 0, 0, 0, 0, 7] rfl rfl rfl)
  have l30 : (lb [0, 0, 0, 3, 0, 0, 0, 4, 0, 5, 0, 0, 0, 0, 0, 0, 0, 2, 0, 0, 0, 0, 0, 0, 0, 0, 0, 0, 0, 7]).length = 30 := rfl
  rw [l30] at hr6 hc6
  have HR6 := Lib.hid hr6
  have HC6 := Lib.hid hc6
  have HB6 := Lib.hid (show Bytes w6 (some ⟨(w5.alloc (.cells #[.int .u8 0, .int .u8 0, .int .u8 0, .int .u8 3, .int .u8 0, .int .u8 0, .int .u8 0, .int .u8 4, .int .u8 0, .int .u8 5, .int .u8 0, .int .u8 0, .int .u8 0, .int .u8 0, .int .u8 0, .int .u8 0, .int .u8 0, .int .u8 2, .int .u8 0, .int .u8 0, .int .u8 0, .int .u8 0, .int .u8 0, .int .u8 0, .int .u8 0, .int .u8 0, .int .u8 0, .int .u8 0, .int .u8 0, .int .u8 7] 5)).heap.size, 0, none⟩) spR from hb6)
  have HF6 := Lib.hid (HF5.out.trans (((Fr.refl _ _).alloc _).trans hf6))
  clear hr6 hc6 hb6 hf6 l30
  go_wp2_with (at_builtin; refine Lib.wpList_append_run _ rfl _ _ _ _ rfl _ _ rfl rfl _ _ HR6.out ?_)
  have hg := GetRel_any (some ⟨w5.heap.size + 1, 0, none⟩) cap6 spR w6 sp_Rl (by have := HB6.out; simpa using this)
  rw [sp_Rl] at hg
  refine hg.mono ?_
  clear hg
  rintro e w7 ⟨x, rfl, hgot, hf7⟩
  have hx : ∃ a c, x = .tuple #[.agg #[.bool true, .int .i64 3, .int .i64 4, .int .i64 (-1), .int .i64 (-1), .int .i64 1, .int .i64 (-1), .int .i64 5, .int .i64 6, .slice a 32 c], .int .i64 0] := by
    unfold GotRel at hgot
    rw [if_pos sp_R] at hgot
    obtain ⟨v, rfl, ho⟩ := hgot
    obtain ⟨a, c, rfl, _⟩ := Bytes.of_own ho
    obtain ⟨e1, e2, e3, e4, e5, e6, e7, e8, e9⟩ := sp_Rv
    refine ⟨a, c, ?_⟩
    unfold RelV.val
    rw [e1, e2, e3, e4, e5, e6, e7, e8, e9, rDec_sl spR sp_Rl]
  obtain ⟨a7, c7, rfl⟩ := hx
  have HF7 := Lib.hid (HF6.out.trans hf7)
  clear hgot hf7
  go_wp2
  go_ret
  exact ⟨rfl, HF7.out.alloc _⟩
end Go.Proofs.Ytmekplamjlnhcaa
