/- Frames: the walks of Pack, the program's and the document's. -/
import Derived.Test.YtlckhfjkdahfpaaDoorRfP
import Derived.Test.YtlckhfjkdahfpaaDoorCrcA
import Derived.Test.YtlckhfjkdahfpaaDoorRecW
import Derived.Deep.RegionHeld3
import Derived.Deep.RegionLaw
import Derived.Deep.CutRange
import Derived.Deep.DeepCutAuto
namespace Go.Proofs.YtlckhfjkdahfpaaDoor
open Go.RowKit
attribute [local go_sem ↓] Go.wp_at_zero Go.wp_at_succ
theorem nib_keep {w w' : World} (h : Nib w) (hf : Fr [] w w') : Nib w' := fun i hi => hf.cell (h i hi) (by simp)
theorem nib_fr {S : List Nat} {w w' : World} (h : Nib w) (hf : Fr S w w') (hS : 0 ∉ S) : Nib w' := fun i hi => hf.cell (h i hi) hS
theorem wrapU_I32 (s : BitVec 32) : IntKind.u64.wrap (I32 s) = I32 s := wrapU_int _ (I32_lo s) (by have := I32_hi s; omega)
theorem I32_nat (s : BitVec 32) : (I32 s).toNat = s.toNat := by unfold I32; omega
theorem I32_toNat (s : BitVec 32) : by8 4 (I32 s).toNat = by8 4 s.toNat := by rw [I32_nat]
theorem by8_1 (n : Nat) : by8 1 n = [UInt8.ofNat n] := by simp [by8]
/-- the error's number of a frame that is packed -/
def errP (z : Int) (d : List UInt8) : Int := if z < 0 ∨ 255 < z then 2 else if 1048576 < d.length then 1 else 0
theorem errP_arg {z : Int} {d : List UInt8} (h : z < 0 ∨ 255 < z) : errP z d = 2 := if_pos h
theorem errP_long {z : Int} {d : List UInt8} (h : ¬ (z < 0 ∨ 255 < z)) (h2 : 1048576 < d.length) : errP z d = 1 := by unfold errP; rw [if_neg h, if_pos h2]
theorem errP_ok {z : Int} {d : List UInt8} (h : ¬ (z < 0 ∨ 255 < z)) (h2 : ¬ 1048576 < d.length) : errP z d = 0 := by unfold errP; rw [if_neg h, if_neg h2]
theorem errP_0 {z : Int} {d : List UInt8} (h : errP z d = 0) : (0 ≤ z ∧ z ≤ 255) ∧ d.length ≤ 1048576 := by
  unfold errP at h
  split at h
  · cases h
  split at h
  · cases h
  omega
/-- the bytes of a frame (none where it is refused) -/
def fL (z : Int) (d : List UInt8) : List UInt8 := if errP z d = 0 then fB (UInt8.ofNat z.toNat) d else []
theorem fL_ok {z : Int} {d : List UInt8} (h : errP z d = 0) : fL z d = fB (UInt8.ofNat z.toNat) d := if_pos h
theorem fL_no {z : Int} {d : List UInt8} (h : errP z d ≠ 0) : fL z d = [] := if_neg h
theorem fL_length (z : Int) (d : List UInt8) : (fL z d).length ≤ 1048585 := by
  by_cases h : errP z d = 0
  · rw [fL_ok h, fB_length]; have := errP_0 h; omega
  · rw [fL_no h]; simp
/-- what Pack gives: memory of the call's own -/
def PackG (w w' : World) (e : Ending) (z : Int) (d : List UInt8) : Prop :=
  ∃ a c, e = .returned (.tuple #[.slice a (fL z d).length c, .int .i64 (errP z d)]) ∧ w'.ownsRow w.heap.size 5 1 (.slice a (fL z d).length c) (fL z d).length ((fL z d).map B8) ∧ Fr [] w w'
theorem PackG.no {w w' : World} {z : Int} {d : List UInt8} {n : Int} (h : errP z d = n) (h0 : n ≠ 0) (hf : Fr [] w w') : PackG w w' (.returned (.tuple #[.slice none 0 0, .int .i64 n])) z d := by
  subst h
  refine ⟨none, 0, ?_, ?_, hf⟩
  · rw [fL_no h0]; rfl
  · rw [fL_no h0]; exact World.ownsRow_nil _ _ _ _
theorem PackG.yes {w w' : World} {z : Int} {d : List UInt8} {v : Value} (h : errP z d = 0) (hf : Fresh w.heap.size w w' v (fB (UInt8.ofNat z.toNat) d)) : PackG w w' (.returned (.tuple #[v, .int .i64 0])) z d := by
  obtain ⟨g, cap, rfl, _, _, ho, hfr⟩ := hf
  refine ⟨some ⟨g, 0, none⟩, cap, ?_, ?_, hfr⟩
  · rw [fL_ok h, h]
  · rw [fL_ok h]; exact ho
theorem duo {w : World} {b T : Nat} {c0 c1 : Value} (h : w.heap[b]? = some (.cells #[c0, c1] T)) : w.cell? ⟨b, 0, none⟩ = some c0 ∧ w.cell? ⟨b, 1, none⟩ = some c1 :=
  ⟨cell_of_row _ _ 0 _ _ _ h, cell_of_row _ _ 1 _ _ _ h⟩
end Go.Proofs.YtlckhfjkdahfpaaDoor

/- Frames: the walk of the document's Pack. -/
namespace Go.Proofs.YtlckhfjkdahfpaaDoor
open Go.RowKit
attribute [local go_sem ↓] Go.wp_at_zero Go.wp_at_succ
theorem step_appC {P : Program} {ops : Array Oper} {o : Oper} {a : Act} {w : World} {K : Act → World → Prop} {Q : Exit → Act → World → Prop} {E : Prop}
    (hg : o.guard = none) (s x : Operand) (t : TypeId) (hop : o.op = Op.call { callee := Callee.builtin Builtin.append, args := #[s, x], argTypes := #[t, t] })
    (base : Nat) (e : TypeId) (ht : P.underlying t = some (.slice e)) (hinfo : (P.info? e).map (fun i => (i.zero, i.size, i.bytes)) = some (some (.int .u8 0), 1, 1))
    (v : Value) (xs : List UInt8) (hs : a.eval s = v) (hown : w.ownsRow base e 1 v xs.length (xs.map B8))
    (ao : Option Addr) (m c : Nat) (l : List UInt8) (hx : a.eval x = .slice ao m c) (hl : l.length = m) (hb : Bytes w ao l) (hnone : ao = none → c = 0)
    (hroom : xs.length + m ≤ 140737488355328) (hbase : base ≤ w.heap.size)
    (hK : ∀ v' w', AppB w w' base e v v' xs l → K (a.put o.dst v') w') :
    if Region.wanted o (yielded ops a.tmps) = true then Oper.wp P o a w K Q else E := by
  subst hl
  have hw : Region.wanted o (yielded ops a.tmps) = true := by simp [Region.wanted, hg]
  rw [if_pos hw]
  obtain ⟨i, hi, hz, hsz2, hby⟩ := info_parts hinfo
  obtain ⟨v', w', hr, ha⟩ := run_appS (P := P) w base t o.type e i (.int .u8 0) 1 1 ht hi hz hsz2 hby rfl (by decide) v xs.length (xs.map B8) hown ao l.length c (l.map B8) (by simp) (by
      rintro ad rfl
      exact hb.news) (by
      rintro rfl
      rcases hb with rfl | ⟨_, _, h, _⟩
      · exact ⟨rfl, hnone rfl⟩
      · cases h) (B8_one l) (by unfold maxLen; omega) (by omega) hbase
  unfold Oper.wp
  simp [execOp, hop, resolve, invoke, builtin, hs, hx, hr, Result.andThen]
  exact hK v' w' ⟨by rw [List.length_append, List.map_append]; exact ha.own, ha.old, ha.grown, ha.blk, ha.nil⟩
theorem own_one (w : World) (x : UInt8) : (w.alloc (.cells #[.int .u8 (I8 x)] 5)).ownsRow w.heap.size 5 1 (.slice (some ⟨w.heap.size, 0, none⟩) 1 1) [x].length ([x].map B8) :=
  ⟨by simp, .inr ⟨w.heap.size, 1, _, rfl, Nat.le_refl _, heap_alloc_new w _, Nat.le_refl _, by unfold maxLen; omega, rfl, rfl⟩⟩
theorem grow_appF {w0 wr w1 : World} {v v' : Value} {xs l : List UInt8} (h : Grow [] w0 wr v xs) (ha : AppB wr w1 w0.heap.size 5 v v' xs l) : Grow [] w0 w1 v' (xs ++ l) ∧ Fr v.ownBlock.toList wr w1 := ⟨h.app ha, ha.fr⟩
theorem wrap8_nat {z : Int} (h0 : 0 ≤ z) (h1 : z ≤ 255) : IntKind.u8.wrap z = I8 (UInt8.ofNat z.toNat) := by
  rw [wrap8_in z h0 h1, I8_of_nat _ (by omega)]
  omega
end Go.Proofs.YtlckhfjkdahfpaaDoor
