/- Frames: the walk of the document's Pack. -/
import Derived.Test.YtkcipbjikimlfaaDoorFrB
namespace Go.Proofs.YtkcipbjikimlfaaDoor
open Go.RowKit
attribute [local go_sem ↓] Go.wp_at_zero Go.wp_at_succ
theorem step_appC {P : Program} {ops : Array Oper} {o : Oper} {a : Act} {w : World} {K : Act → World → Prop} {Q : Exit → Act → World → Prop} {E : Prop}
    (hg : o.guard = none) (s x : Operand) (t : TypeId) (hop : o.op = Op.call { callee := Callee.builtin Builtin.append, args := #[s, x], argTypes := #[t, t] })
    (base : Nat) (e : TypeId) (ht : P.underlying t = some (.slice e)) (hinfo : (P.info? e).map (fun i => (i.zero, i.size, i.bytes)) = some (some (.int .u8 0), 1, 1))
    (v : Value) (xs : List UInt8) (hs : a.eval s = v) (hown : w.ownsRow base e 1 v xs.length (xs.map B8))
    (ao : Option Addr) (m c : Nat) (l : List UInt8) (hx : a.eval x = .slice ao m c) (hl : l.length = m) (hb : Bytes w ao l) (hnone : ao = none → c = 0)
    (hroom : xs.length + m ≤ 140737488355328) (hbase : base ≤ w.heap.size)
    (hK : ∀ v' w', AppB w w' base e v v' xs l → K (a.put o.dst v') w') :
    if Region.wanted o (yielded ops a.tmps) = true then Oper.wp P o a w K Q else E := by
  subst hl
  have hw : Region.wanted o (yielded ops a.tmps) = true := by simp [Region.wanted, hg]
  rw [if_pos hw]
  obtain ⟨i, hi, hz, hsz2, hby⟩ := info_parts hinfo
  obtain ⟨v', w', hr, ha⟩ := run_appS (P := P) w base t o.type e i (.int .u8 0) 1 1 ht hi hz hsz2 hby rfl (by decide) v xs.length (xs.map B8) hown ao l.length c (l.map B8) (by simp) (by
      rintro ad rfl
      exact hb.news) (by
      rintro rfl
      rcases hb with rfl | ⟨_, _, h, _⟩
      · exact ⟨rfl, hnone rfl⟩
      · cases h) (B8_one l) (by unfold maxLen; omega) (by omega) hbase
  unfold Oper.wp
  simp [execOp, hop, resolve, invoke, builtin, hs, hx, hr, Result.andThen]
  exact hK v' w' ⟨by rw [List.length_append, List.map_append]; exact ha.own, ha.old, ha.grown, ha.blk, ha.nil⟩
theorem own_one (w : World) (x : UInt8) : (w.alloc (.cells #[.int .u8 (I8 x)] 5)).ownsRow w.heap.size 5 1 (.slice (some ⟨w.heap.size, 0, none⟩) 1 1) [x].length ([x].map B8) :=
  ⟨by simp, .inr ⟨w.heap.size, 1, _, rfl, Nat.le_refl _, heap_alloc_new w _, Nat.le_refl _, by unfold maxLen; omega, rfl, rfl⟩⟩
theorem grow_appF {w0 wr w1 : World} {v v' : Value} {xs l : List UInt8} (h : Grow [] w0 wr v xs) (ha : AppB wr w1 w0.heap.size 5 v v' xs l) : Grow [] w0 w1 v' (xs ++ l) ∧ Fr v.ownBlock.toList wr w1 := ⟨h.app ha, ha.fr⟩
theorem wrap8_nat {z : Int} (h0 : 0 ≤ z) (h1 : z ≤ 255) : IntKind.u8.wrap z = I8 (UInt8.ofNat z.toNat) := by
  rw [wrap8_in z h0 h1, I8_of_nat _ (by omega)]
  omega
end Go.Proofs.YtkcipbjikimlfaaDoor
