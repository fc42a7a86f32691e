/- What the records' laws ask first: bytes that the document fixes. -/
import Derived.Test.YtbhmfbhfofgfaaaRecN
import Derived.Lib.AppendZeros
import Derived.Lib.SlBytesConst
namespace Go.Proofs.Ytbhmfbhfofgfaaa
open Go.RowKit
attribute [local go_sem ↓] Go.wp_at_zero Go.wp_at_succ
/-- append(b, make([]byte, n)...) where there is no room -/
theorem run_append_grow_zeros {P : Program} (w : World) (t tn ty e : TypeId) (i : TypeInfo) (z : Value) (k kn : IntKind) (ht : P.underlying t = some (.slice e)) (htn : P.underlying tn = some (.int kn)) (hi : P.info? e = some i) (hz : i.zero = some z)
    (b : Addr) (sLen sCap : Nat) (olds : List Value) (hlo : olds.length = sLen * i.size) (holds : ∀ j v, olds[j]? = some v → w.cell? (b.add j) = some v)
    (n : Nat) (hg : sCap < sLen + n) (hs : 0 < i.size) (h0 : 0 < n) (h63 : ((sLen + n : Nat) : Int) ≤ 9223372036854775807) (h48 : n * i.bytes ≤ 281474976710656) (hfit : Builtin.nextslicecap (sLen + n) sCap * i.bytes ≤ 281474976710656) :
    (Builtin.append_ #[t, tn] ty #[.slice (some b) sLen sCap, .int k n]).run P w =
      .ok (.slice (some ⟨w.heap.size, 0, none⟩) (sLen + n) (grownCap w (sLen + n) sCap e))
        (w.drew.alloc (.cells (olds.toArray ++ Builtin.zeroCells z.cells n ++ Builtin.zeroCells z.cells (grownCap w (sLen + n) sCap e - (sLen + n))) e)) := by
  have hw : IntKind.i64.wrap (n : Int) = n := by rw [IntKind.wrap_i64]; omega
  have hn : ¬ (sLen + n ≤ sCap) := by omega
  have h63' : ¬ (9223372036854775807 < ((sLen : Int) + (n : Int))) := by omega
  have h48' : ¬ (281474976710656 < Builtin.nextslicecap (sLen + n) sCap * i.bytes) := by omega
  have h48i : ¬ (281474976710656 < (n : Int) * (i.bytes : Int)) := by
    rw [← Int.natCast_mul]
    omega
  have hneg : ¬ ((n : Int) < 0) := by omega
  have hns : ¬ (n * i.size = 0) := Nat.mul_ne_zero (by omega) (by omega)
  have hns2 : ¬ n = 0 := by omega
  have hfo := run_firstCells_some (P := P) w.drew i.size sLen b sLen sCap olds hlo (by simpa using holds)
  simp [Builtin.append_, run_underlying ht, run_underlying htn, sizeOf, typeInfo, zeroValue, hi, hz, asInt, asIntOf, hw, hn, hneg, hns, hns2, h63', h48', h48i, Question.forced, hfo, newRow, grownCap]
/-- .. for bytes: what stands there is new, and reads so -/
theorem run_zeros8 (w : World) (ty : TypeId) (a : Addr) (c n : Nat) (k : IntKind) (l : List UInt8) (hc : c < l.length + n) (h0 : 0 < n) (hl : l.length + n ≤ 1000) (hb : Bytes w (some a) l) :
    ∃ cap w', (Builtin.append_ #[27, 3] ty #[.slice (some a) l.length c, .int k n]).run Try.prog w = .ok (.slice (some ⟨w.heap.size, 0, none⟩) (l.length + n) cap) w' ∧ l.length + n ≤ cap ∧ Bytes w' (some ⟨w.heap.size, 0, none⟩) (l ++ List.replicate n 0) ∧ Fr [] w w' := by
  obtain ⟨i, hi, hz, hsz, hby⟩ := info_parts info8
  have hlo : (l.map B8).length = l.length * i.size := by rw [hsz]; simp
  refine ⟨_, _, run_append_grow_zeros (P := Try.prog) w 27 3 ty 5 i (.int .u8 0) k .i64 Try.underlying27 Try.underlying3 hi hz a l.length c (l.map B8) hlo hb.news n hc (by omega) h0 (by omega) (by rw [hby]; omega) (by rw [hby]; exact growslice_fits (by omega) (by omega)), grownCap_ge _ _ _ _, ?_, ((Fr.refl _ _).drew).alloc _⟩
  have hI : I8 0 = 0 := by decide +kernel
  have e1 : (Value.int .u8 0) = B8 0 := by unfold B8; rw [hI]
  refine Or.inr ⟨w.heap.size, 0, rfl, fun j hj => ?_⟩
  have hnew := fun o => (show (w.drew.alloc o).heap[w.heap.size]? = some o from heap_alloc_new w.drew o)
  rw [Nat.zero_add, cell_of_row _ _ j _ _ _ (hnew _)]
  have hz0 : (Builtin.zeroCells (Value.int .u8 0).cells n).toList = List.replicate n (B8 0) := by
    rw [← e1]
    apply List.ext_getElem?
    intro q
    by_cases hq : q < n <;> simp [Builtin.zeroCells, Value.cells, Nat.mod_one, List.getElem?_replicate, hq]
  have hlen : j < l.length + n := by simpa using hj
  have e2 : ((l.map B8).toArray ++ Builtin.zeroCells (Value.int .u8 0).cells n) = ((l ++ List.replicate n 0).map B8).toArray := by
    apply Array.ext'
    rw [Array.toList_append, hz0]
    simp
  rw [e2, Array.getElem?_append_left (by simpa using hlen), List.getElem?_toArray]
  simp only [List.getElem?_map, List.getD]
  rw [List.getElem?_eq_getElem hj]
  rfl
theorem sp_g : gFine ⟨false, 3, 1, 7, -1, 0, -1⟩ = true := by decide +kernel
theorem sp_gB : gB ⟨false, 3, 1, 7, -1, 0, -1⟩ = lb [0, 3, 0, 0, 0, 1, 0, 0, 0, 8, 0, 0, 0, 0, 0, 0, 0, 1, 0, 0, 0, 0] := by decide +kernel
/-- the slots of the node that speaks -/
def spS : List UInt8 := (List.replicate 48 0).set 5 9
theorem sp_n : nFine ⟨true, 2048, -1, [4], spS⟩ = true := by decide +kernel
theorem sp_len : (nB ⟨true, 2048, -1, [4], spS⟩).length = 65 := by decide +kernel
theorem sp_10 : (nB ⟨true, 2048, -1, [4], spS⟩).take 10 = lb [1, 0, 0, 8, 1, 0, 0, 0, 0, 5] := by decide +kernel
theorem sp_22 : I8 ((nB ⟨true, 2048, -1, [4], spS⟩).getD 22 0) = 9 := by decide +kernel
/-- the relationship that speaks -/
def spR : List UInt8 := lb [0, 0, 0, 3, 0, 0, 0, 4, 0, 5, 0, 0, 0, 0, 0, 0, 0, 2, 0, 0, 0, 0, 0, 0, 0, 0, 0, 0, 0, 7] ++ List.replicate 32 0
theorem sp_R : rFine (rDec spR) = true := by decide +kernel
theorem sp_Rl : spR.length = 62 := by decide +kernel
theorem sp_Rv : (rDec spR).live = true ∧ (rDec spR).fr = 3 ∧ (rDec spR).to = 4 ∧ (rDec spR).fp = -1 ∧ (rDec spR).tp = -1 ∧ (rDec spR).fn = 1 ∧ (rDec spR).tn = -1 ∧ (rDec spR).ty = 5 ∧ (rDec spR).ov = 6 := by decide +kernel
theorem sp_arr : (Array.replicate 48 (Value.int .u8 0)).setIfInBounds 5 (.int .u8 9) = (spS.map B8).toArray := by
  have h0 : B8 0 = .int .u8 0 := by unfold B8; rw [show I8 0 = 0 by decide +kernel]
  have h9 : B8 9 = .int .u8 9 := by unfold B8; rw [show I8 9 = 9 by decide +kernel]
  apply Array.ext'
  simp [spS, List.map_set, h0, h9]
theorem sp_sl : spS.length = 48 := by decide +kernel
end Go.Proofs.Ytbhmfbhfofgfaaa
