/- Lists of the call's own that lie apart. No program. -/
import Derived.Test.YtlckhfjkdahfpaaDoorFresh
namespace Go.Proofs.YtlckhfjkdahfpaaDoor
open Go.RowKit

/-- lists of the call's own in blocks of their own, none of which is one of 'ps' -/
structure Sep (w0 w : World) (ps : List Nat) (L : List (Value × List UInt8)) : Prop where
  own : ∀ x ∈ L, w.ownsRow w0.heap.size 5 1 x.1 x.2.length (x.2.map B8)
  dis : L.Pairwise fun x y => ∀ g, x.1.ownBlock = some g → y.1.ownBlock ≠ some g
  pne : ∀ x ∈ L, ∀ g, x.1.ownBlock = some g → g ∉ ps
  lo : ∀ p ∈ ps, w0.heap.size ≤ p ∧ p < w.heap.size
  fr : Fr [] w0 w
theorem Sep.start (w : World) : Sep w w [] [] := ⟨fun _ h => (List.not_mem_nil h).elim, List.Pairwise.nil, fun _ h => (List.not_mem_nil h).elim, fun _ h => (List.not_mem_nil h).elim, Fr.refl _ _⟩
theorem Sep.still {w0 w w' : World} {ps : List Nat} {L : List (Value × List UInt8)} (h : Sep w0 w ps L) (hf : Fr [] w w') : Sep w0 w' ps L :=
  ⟨fun x hx => own_fr (h.own x hx) hf (by simp), h.dis, h.pne, fun p hp => ⟨(h.lo p hp).1, Nat.lt_of_lt_of_le (h.lo p hp).2 hf.size⟩, h.fr.trans hf⟩
/-- a new list -/
theorem Sep.add {w0 w w' : World} {ps : List Nat} {L : List (Value × List UInt8)} {v : Value} {l : List UInt8} (h : Sep w0 w ps L) (hf : Fr [] w w') (ho : w'.ownsRow w.heap.size 5 1 v l.length (l.map B8)) : Sep w0 w' ps ((v, l) :: L) := by
  have hs := h.still hf
  have hlo : ∀ g, v.ownBlock = some g → w.heap.size ≤ g := fun g hg => (own_lt ho hg).1
  refine ⟨fun x hx => ?_, List.pairwise_cons.2 ⟨fun y hy g hg e => ?_, hs.dis⟩, fun x hx g hg hm => ?_, hs.lo, hs.fr⟩
  · rcases List.mem_cons.1 hx with rfl | hx
    · exact own_base ho h.fr.size
    · exact hs.own x hx
  · have := (own_lt (h.own y hy) e).2
    have := hlo g hg
    omega
  · rcases List.mem_cons.1 hx with rfl | hx
    · have := hlo g hg
      have := (h.lo g hm).2
      omega
    · exact hs.pne x hx g hg hm
/-- a new block that holds something else -/
theorem Sep.box {w0 w w' : World} {ps : List Nat} {L : List (Value × List UInt8)} {p : Nat} (h : Sep w0 w ps L) (hf : Fr [] w w') (hp : w.heap.size ≤ p) (hlt : p < w'.heap.size) : Sep w0 w' (p :: ps) L := by
  have hs := h.still hf
  refine ⟨hs.own, hs.dis, fun x hx g hg hm => ?_, fun q hq => ?_, hs.fr⟩
  · rcases List.mem_cons.1 hm with rfl | hm
    · have := (own_lt (h.own x hx) hg).2
      omega
    · exact hs.pne x hx g hg hm
  · rcases List.mem_cons.1 hq with rfl | hq
    · exact ⟨Nat.le_trans h.fr.size hp, hlt⟩
    · exact hs.lo q hq
theorem Sep.apart {w0 w : World} {ps : List Nat} {A C : List (Value × List UInt8)} {x : Value × List UInt8} (h : Sep w0 w ps (A ++ x :: C)) : ∀ y, y ∈ A ∨ y ∈ C → ∀ g, x.1.ownBlock = some g → y.1.ownBlock ≠ some g := by
  intro y hy g hg e
  have hd := h.dis
  rw [List.pairwise_append] at hd
  obtain ⟨_, h2, h3⟩ := hd
  rcases hy with hy | hy
  · exact h3 y hy x List.mem_cons_self g e hg
  · exact (List.pairwise_cons.1 h2).1 y hy g hg e
/-- one list turns; of 'ps' any may turn, too -/
theorem Sep.turn {w0 w w' : World} {ps : List Nat} (A C : List (Value × List UInt8)) {v v' : Value} {l l' : List UInt8} {S : List Nat} (h : Sep w0 w ps (A ++ (v, l) :: C)) (hf : Fr S w w') (hS : ∀ i ∈ S, i ∈ ps ∨ v.ownBlock = some i)
    (ho : w'.ownsRow w0.heap.size 5 1 v' l'.length (l'.map B8)) (hb : v'.ownBlock = v.ownBlock ∨ ∃ g, v'.ownBlock = some g ∧ w.heap.size ≤ g) : Sep w0 w' ps (A ++ (v', l') :: C) := by
  have hap := h.apart
  have hin : ∀ y, y ∈ A ∨ y ∈ C → y ∈ A ++ (v, l) :: C := fun y hy => by
    rcases hy with hy | hy
    · exact List.mem_append.2 (.inl hy)
    · exact List.mem_append.2 (.inr (List.mem_cons_of_mem _ hy))
  have hme : (v, l) ∈ A ++ (v, l) :: C := List.mem_append.2 (.inr List.mem_cons_self)
  have hout : ∀ y, y ∈ A ++ (v', l') :: C → y = (v', l') ∨ y ∈ A ∨ y ∈ C := fun y hy => by
    rcases List.mem_append.1 hy with hy | hy
    · exact .inr (.inl hy)
    · rcases List.mem_cons.1 hy with hy | hy
      · exact .inl hy
      · exact .inr (.inr hy)
  have hnew : ∀ y, y ∈ A ∨ y ∈ C → ∀ g, v'.ownBlock = some g → y.1.ownBlock ≠ some g := by
    intro y hy g hg e
    rcases hb with hb | ⟨g', hb, hlt⟩
    · exact hap y hy g (hb.symm.trans hg) e
    · rw [hb] at hg
      have e1 := Option.some.inj hg
      have := (own_lt (h.own y (hin y hy)) e).2
      omega
  refine ⟨fun x hx => ?_, ?_, fun x hx g hg hm => ?_, fun p hp => ⟨(h.lo p hp).1, Nat.lt_of_lt_of_le (h.lo p hp).2 hf.size⟩, h.fr.next hf fun i hi hlt => ?_⟩
  · rcases hout x hx with rfl | hx
    · exact ho
    · refine own_fr (h.own x (hin x hx)) hf fun g hg hm => ?_
      rcases hS g hm with hm | hm
      · exact h.pne x (hin x hx) g hg hm
      · exact hap x hx g hm hg
  · have hd := h.dis
    rw [List.pairwise_append] at hd ⊢
    obtain ⟨h1, h2, h3⟩ := hd
    rw [List.pairwise_cons] at h2 ⊢
    refine ⟨h1, ⟨fun y hy g hg => hnew y (.inr hy) g hg, h2.2⟩, fun x hx y hy g hg => ?_⟩
    rcases List.mem_cons.1 hy with rfl | hy
    · exact fun e => hnew x (.inl hx) g e hg
    · exact h3 x hx y (List.mem_cons_of_mem _ hy) g hg
  · rcases hout x hx with rfl | hx
    · rcases hb with hb | ⟨g', hb, hlt⟩
      · exact h.pne _ hme g (hb.symm.trans hg) hm
      · rw [show (v', l').1.ownBlock = v'.ownBlock from rfl, hb] at hg
        have e1 := Option.some.inj hg
        have := (h.lo g hm).2
        omega
    · exact h.pne x (hin x hx) g hg hm
  · rcases hS i hi with hm | hm
    · have := (h.lo i hm).1
      omega
    · have := (own_lt (h.own _ hme) hm).1
      omega
theorem Sep.bytes {w0 w : World} {ps : List Nat} {L : List (Value × List UInt8)} {a : Option Addr} {n cap : Nat} {l : List UInt8} (h : Sep w0 w ps L) (hm : (Value.slice a n cap, l) ∈ L) : Bytes w a l := by
  obtain ⟨a', cap', e, hb, _⟩ := Bytes.of_own (h.own _ hm)
  simp only [Value.slice.injEq] at e
  obtain ⟨rfl, _, rfl⟩ := e
  exact hb
/-- what stands in one of 'ps' stays while a list turns -/
theorem Sep.obj {w0 w w' : World} {ps : List Nat} {L : List (Value × List UInt8)} {v : Value} {l : List UInt8} {p : Nat} {o : Obj} (h : Sep w0 w ps L) (hm : (v, l) ∈ L) (hf : Fr v.ownBlock.toList w w') (hp : p ∈ ps) (ho : w.heap[p]? = some o) : w'.heap[p]? = some o :=
  hf.obj ho (by intro hi; exact h.pne _ hm p (by simpa using hi) hp)
end Go.Proofs.YtlckhfjkdahfpaaDoor
