/- Frames: the walk of Feed. -/
import Derived.Test.YtkgfdcagninphaaDoorFrH
namespace Go.Proofs.YtkgfdcagninphaaDoor
open Go.RowKit
attribute [local go_sem ↓] Go.wp_at_zero Go.wp_at_succ
/-- what Feed leaves: l are the bytes that were left, with the new ones behind them -/
def FeedG (w w' : World) (x : Ending) (B p : Nat) (u v : Value) (l : List UInt8) (X : List FI) : Prop :=
  ∃ u' v' X1, x = .returned (.int .i64 (run l).2.2) ∧ RdS w' B p u' v' (if (run l).2.2 = 0 then l.drop (run l).2.1 else []) (X ++ X1) (run l).2.2 ∧ X1.map FI.fr = (run l).1 ∧
    Fr (p :: (u.ownBlock.toList ++ v.ownBlock.toList)) w w' ∧ (∀ g, u'.ownBlock = some g → u.ownBlock = some g ∨ w.heap.size ≤ g) ∧ (∀ g, v'.ownBlock = some g → v.ownBlock = some g ∨ w.heap.size ≤ g) ∧ ∀ x ∈ X1, ∀ g, x.v.ownBlock = some g → w.heap.size ≤ g
/-- bytes are taken in -/
theorem RdS.feed {w wA : World} {B p m : Nat} {u u1 v : Value} {l c : List UInt8} {X : List FI} (h : RdS w B p u v l X 0) (hm : m = c.length) (ha : AppO w wA B 5 1 u u1 l.length m (l.map B8) (c.map B8)) :
    RdS (wA.setCell ⟨p, 0, none⟩ u1) B p u1 v (l ++ c) X 0 ∧ Fr (p :: u.ownBlock.toList) w (wA.setCell ⟨p, 0, none⟩ u1) ∧ (∀ g, u1.ownBlock = some g → u.ownBlock = some g ∨ w.heap.size ≤ g) := by
  subst hm
  have hpu : p ∉ u.ownBlock.toList := fun hm => h.rest.ty h.obj (by decide) (by simpa using hm)
  have hA := ha.fr.obj h.obj hpu
  have hf : Fr [p] wA (wA.setCell ⟨p, 0, none⟩ u1) := (Fr.refl [p] wA).setCell (by simp) _
  have hown : OwnO wA B 5 1 u1 (l ++ c).length ((l ++ c).map B8) := by rw [List.length_append, List.map_append]; exact ha.own
  have hr : FrO wA B v X := h.ready.fr ha.fr (fun g hg hm => h.ready.row.two h.rest (by decide) g hg (by simpa using hm)) (fun x hx g hg hm => h.sep x hx g hg (by simpa using hm))
  have hb : ∀ g, u1.ownBlock = some g → u.ownBlock = some g ∨ w.heap.size ≤ g := by
    intro g hg
    rcases ha.blk with e | ⟨g', e, hlt⟩
    · exact .inl (e ▸ hg)
    · rw [e] at hg; cases hg; exact .inr hlt
  refine ⟨⟨?_, hown.fr hf (fun g hg hm => hown.ty hA (by decide) (by rw [hg]; simpa using hm)), hr.fr hf (fun g hg hm => hr.row.ty hA (by decide) (by rw [hg]; simpa using hm)) (fun x hx g hg hm => own_ty (hr.dat x hx) hA (by decide) (by rw [hg]; simpa using hm)), ?_⟩, ?_, hb⟩
  · rw [heap_setCell_same wA p 0 _ _ _ hA]; rfl
  · intro x hx g hg e
    rcases hb g e with h1 | h1
    · exact h.sep x hx g hg h1
    · have := (h.ready.lt.2 x hx g hg).2; omega
  · exact (ha.fr.mono (by intro k hk _; exact List.mem_cons_of_mem _ hk)).setCell (by simp) _
/-- the error is kept -/
theorem RdS.bad {w : World} {B p : Nat} {u v : Value} {l : List UInt8} {X : List FI} {e0 : Int} (h : RdS w B p u v l X e0) (e : Int) : RdS ((w.setCell ⟨p, 2, none⟩ (.int .i64 e)).setCell ⟨p, 0, none⟩ (.slice none 0 0)) B p (.slice none 0 0) v [] X e := by
  have hf : Fr [p] w ((w.setCell ⟨p, 2, none⟩ (.int .i64 e)).setCell ⟨p, 0, none⟩ (.slice none 0 0)) := ((Fr.refl [p] w).setCell (by simp) _).setCell (by simp) _
  refine ⟨?_, .nil _ _ _ _, h.ready.fr hf (fun g hg hm => h.ready.row.ty h.obj (by decide) (by rw [hg]; simpa using hm)) (fun x hx g hg hm => own_ty (h.ready.dat x hx) h.obj (by decide) (by rw [hg]; simpa using hm)), ?_⟩
  · rw [heap_setCell_same _ p 0 _ _ _ (heap_setCell_same _ p 2 _ _ _ h.obj)]; rfl
  · intro x hx g hg e1; cases e1
/-- a frame is laid behind the others -/
theorem RdS.push {w wA : World} {B p N : Nat} {u v v1 : Value} {l : List UInt8} {X : List FI} {x : FI} (h : RdS w B p u v l X 0) (hu : ∀ g, u.ownBlock = some g → g < N) (hva : ∀ g, v.ownBlock = some g → g < N) (hX : ∀ y ∈ X, ∀ g, y.v.ownBlock = some g → g < N) (hx : w.ownsRow N 5 1 x.v x.d.length (x.d.map B8)) (hB : B ≤ N)
    (ha : AppO w wA B 25 2 v v1 X.length 1 (fiCells X) [.int .i64 (I8 x.t), x.v]) :
    RdS (wA.setCell ⟨p, 1, none⟩ v1) B p u v1 l (X ++ [x]) 0 ∧ Fr (p :: v.ownBlock.toList) w (wA.setCell ⟨p, 1, none⟩ v1) ∧ (∀ g, v1.ownBlock = some g → v.ownBlock = some g ∨ w.heap.size ≤ g) := by
  have hpv : p ∉ v.ownBlock.toList := fun hm => h.ready.row.ty h.obj (by decide) (by simpa using hm)
  have hA := ha.fr.obj h.obj hpv
  have hf : Fr [p] wA (wA.setCell ⟨p, 1, none⟩ v1) := (Fr.refl [p] wA).setCell (by simp) _
  have hr : OwnO wA B 5 1 u l.length (l.map B8) := h.rest.fr ha.fr (fun g hg hm => h.rest.two h.ready.row (by decide) g hg (by simpa using hm))
  have hn := h.ready.app hva hX hx hB ha
  have hb : ∀ g, v1.ownBlock = some g → v.ownBlock = some g ∨ w.heap.size ≤ g := by
    intro g hg
    rcases ha.blk with e | ⟨g', e, hlt⟩
    · exact .inl (e ▸ hg)
    · rw [e] at hg; cases hg; exact .inr hlt
  refine ⟨⟨?_, hr.fr hf (fun g hg hm => hr.ty hA (by decide) (by rw [hg]; simpa using hm)), hn.fr hf (fun g hg hm => hn.row.ty hA (by decide) (by rw [hg]; simpa using hm)) (fun y hy g hg hm => own_ty (hn.dat y hy) hA (by decide) (by rw [hg]; simpa using hm)), ?_⟩, ?_, hb⟩
  · rw [heap_setCell_same wA p 1 _ _ _ hA]; rfl
  · intro y hy g hg e
    rcases List.mem_append.1 hy with hy | hy
    · exact h.sep y hy g hg e
    · obtain rfl : y = x := by simpa using hy
      have h1 := (own_lt hx hg).1
      have h2 := hu g e
      omega
  · exact (ha.fr.mono (by intro k hk _; exact List.mem_cons_of_mem _ hk)).setCell (by simp) _
/-- the front of the rest is cut off -/
theorem RdS.cut {w : World} {B p n c : Nat} {a : Option Addr} {v v' : Value} {l : List UInt8} {X : List FI} (h : RdS w B p (.slice a n c) v l X 0) (k : Nat) (hn : n = l.length) (hk : k ≤ n) (hk0 : 0 < k)
    (hv : (c - k = 0 ∧ v' = .slice a (n - k) (c - k)) ∨ (c - k ≠ 0 ∧ ∃ ad, a = some ad ∧ v' = .slice (some (ad.add k)) (n - k) (c - k))) :
    RdS (w.setCell ⟨p, 0, none⟩ v') B p v' v (l.drop k) X 0 ∧ Fr [p] w (w.setCell ⟨p, 0, none⟩ v') ∧ ∀ g, v'.ownBlock = some g → (Value.slice a n c).ownBlock = some g := by
  subst hn
  have hf : Fr [p] w (w.setCell ⟨p, 0, none⟩ v') := (Fr.refl [p] w).setCell (by simp) _
  have hb : ∀ g, v'.ownBlock = some g → (Value.slice a l.length c).ownBlock = some g := by
    intro g e
    rcases hv with ⟨_, rfl⟩ | ⟨_, ad, rfl, rfl⟩
    · cases a <;> exact e
    · simp only [Value.ownBlock, Option.some.injEq] at e ⊢
      rw [← e]
      unfold Addr.add
      split <;> rfl
  have hc := h.rest.cut k hk hk0 v' (by rw [Nat.mul_one]; exact hv)
  rw [Nat.mul_one, ← List.map_drop, show l.length - k = (l.drop k).length from List.length_drop.symm] at hc
  refine ⟨⟨?_, hc.fr hf (fun g hg hm => hc.ty h.obj (by decide) (by rw [hg]; simpa using hm)), h.ready.fr hf (fun g hg hm => h.ready.row.ty h.obj (by decide) (by rw [hg]; simpa using hm)) (fun x hx g hg hm => own_ty (h.ready.dat x hx) h.obj (by decide) (by rw [hg]; simpa using hm)), fun x hx g hg e => h.sep x hx g hg (hb g e)⟩, hf, hb⟩
  rw [heap_setCell_same _ p 0 _ _ _ h.obj]; rfl
end Go.Proofs.YtkgfdcagninphaaDoor
