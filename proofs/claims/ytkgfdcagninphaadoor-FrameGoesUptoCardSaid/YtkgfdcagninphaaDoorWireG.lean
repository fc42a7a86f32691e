/- The walks of spoil and of wire's Writer. -/
import Derived.Test.YtkgfdcagninphaaDoorWireE
namespace Go.Proofs.YtkgfdcagninphaaDoor
open Go.RowKit
attribute [local go_sem] mulU256 wrapU_nat wrapU_I8 wrapU addU mulU remU divU byteU shrU I8_ne I8_eq U_eq U_ne
theorem Bytes.new {w : World} {arr : Array Value} {t : Nat} {fr : Nat × Nat} {g : Nat} (l : List UInt8) (hg : g = w.heap.size) (ha : arr = (l.map B8).toArray) : Bytes (w.alloc (.cells arr t fr)) (some ⟨g, 0, none⟩) l := by
  subst ha
  subst hg
  refine Or.inr ⟨w.heap.size, 0, rfl, fun j hj => ?_⟩
  rw [Nat.zero_add, cell_of_row _ _ j _ t fr (heap_alloc_new w _), List.getElem?_toArray]
  simp [List.getD, hj]
/-- a shorter value of the same block -/
theorem own_pre {w w0 : World} {B e : Nat} {u v : Value} {xs ys : List UInt8} (hv : w0.ownsRow B e 1 v xs.length (xs.map B8)) (hu0 : w0.ownsRow B e 1 u (xs ++ ys).length ((xs ++ ys).map B8))
    (hu : w.ownsRow B e 1 u (xs ++ ys).length ((xs ++ ys).map B8)) (hb : u.ownBlock = v.ownBlock) : w.ownsRow B e 1 v xs.length (xs.map B8) := by
  refine ⟨by simp, ?_⟩
  rcases hv.2 with ⟨rfl, h0⟩ | ⟨g, cap, cur, rfl, hg, hh, hn, hm, hs, ht⟩
  · exact .inl ⟨rfl, h0⟩
  rcases hu0.2 with ⟨rfl, h0⟩ | ⟨g', cap', cur', rfl, hg', hh', hn', hm', hs', ht'⟩
  · simp [Value.ownBlock] at hb
  simp only [Value.ownBlock, Option.some.injEq] at hb
  subst hb
  rw [hh'] at hh
  simp only [Option.some.injEq, Obj.cells.injEq, true_and, and_true] at hh
  subst hh
  have : cap' = cap := by omega
  subst this
  rcases hu.2 with ⟨e1, _⟩ | ⟨g2, cap2, cur2, e1, hg2, hh2, hn2, hm2, hs2, ht2⟩
  · cases e1
  simp only [Value.slice.injEq, Option.some.injEq, Addr.mk.injEq] at e1
  obtain ⟨⟨rfl, _⟩, _, rfl⟩ := e1
  refine .inr ⟨g', cap', cur2, rfl, hg, hh2, hn, hm, hs2, ?_⟩
  rw [Nat.mul_one] at ht2 ⊢
  have h3 := congrArg (List.take xs.length) ht2
  rw [List.take_take, List.length_append, Nat.min_eq_left (by omega), List.map_append, List.take_append_of_le_length (by simp)] at h3
  rw [h3, List.take_of_length_le (by simp)]

theorem rep_set (l : List UInt8) (x : UInt8) (k : Nat) (h : k < l.length) : (List.replicate k x ++ l.drop k).set k x = List.replicate (k + 1) x ++ l.drop (k + 1) := by
  rw [List.set_append_right _ _ (by simp), List.length_replicate, Nat.sub_self, List.drop_eq_getElem_cons h, List.set_cons_zero, List.replicate_succ', List.append_assoc]
  rfl
end Go.Proofs.YtkgfdcagninphaaDoor
