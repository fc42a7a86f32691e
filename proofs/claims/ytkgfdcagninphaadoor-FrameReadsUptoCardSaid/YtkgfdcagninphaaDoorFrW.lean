/- Frames: a Reader in use beside lists of the law's own. -/
import Derived.Test.YtkgfdcagninphaaDoorFrT
namespace Go.Proofs.YtkgfdcagninphaaDoor
open Go.RowKit
attribute [local go_sem ↓] Go.wp_at_zero Go.wp_at_succ
/-- a Reader's blocks -/
def rdB (p : Nat) (u v : Value) (X : List FI) : List Nat := p :: (u.ownBlock.toList ++ (v.ownBlock.toList ++ X.flatMap fun x => x.v.ownBlock.toList))
theorem rdB_p (p : Nat) (u v : Value) (X : List FI) : p ∈ rdB p u v X := List.mem_cons_self
theorem rdB_u {p g : Nat} {u v : Value} {X : List FI} (h : u.ownBlock = some g) : g ∈ rdB p u v X := List.mem_cons_of_mem _ (List.mem_append_left _ (by simpa using h))
theorem rdB_v {p g : Nat} {u v : Value} {X : List FI} (h : v.ownBlock = some g) : g ∈ rdB p u v X := List.mem_cons_of_mem _ (List.mem_append_right _ (List.mem_append_left _ (by simpa using h)))
theorem rdB_x {p g : Nat} {u v : Value} {X : List FI} {x : FI} (hx : x ∈ X) (h : x.v.ownBlock = some g) : g ∈ rdB p u v X := List.mem_cons_of_mem _ (List.mem_append_right _ (List.mem_append_right _ (List.mem_flatMap.2 ⟨x, hx, by simpa using h⟩)))
theorem rdB_cases {p g : Nat} {u v : Value} {X : List FI} (h : g ∈ rdB p u v X) : g = p ∨ u.ownBlock = some g ∨ v.ownBlock = some g ∨ ∃ x ∈ X, x.v.ownBlock = some g := by
  rcases List.mem_cons.1 h with h | h
  · exact .inl h
  rcases List.mem_append.1 h with h | h
  · exact .inr (.inl (by simpa using h))
  rcases List.mem_append.1 h with h | h
  · exact .inr (.inr (.inl (by simpa using h)))
  · obtain ⟨x, hx, h⟩ := List.mem_flatMap.1 h
    exact .inr (.inr (.inr ⟨x, hx, by simpa using h⟩))
theorem RdS.lt {w : World} {B p : Nat} {u v : Value} {l : List UInt8} {X : List FI} {e : Int} (h : RdS w B p u v l X e) : ∀ i ∈ rdB p u v X, i < w.heap.size := by
  intro i hi
  rcases rdB_cases hi with rfl | hi | hi | ⟨x, hx, hi⟩
  · exact (Array.getElem?_eq_some_iff.1 h.obj).1
  · exact (h.rest.lt hi).2
  · exact (h.ready.lt.1 i hi).2
  · exact (h.ready.lt.2 x hx i hi).2
/-- a Reader in use, and blocks O of others -/
structure RS (B : Nat) (O : List Nat) (w : World) (p : Nat) (u v : Value) (l : List UInt8) (X : List FI) (e : Int) : Prop where
  rd : RdS w B p u v l X e
  apart : ∀ i ∈ rdB p u v X, i ∉ O
  base : B ≤ p
theorem RS.ge {B : Nat} {O : List Nat} {w : World} {p : Nat} {u v : Value} {l : List UInt8} {X : List FI} {e : Int} (h : RS B O w p u v l X e) : ∀ i ∈ rdB p u v X, B ≤ i := by
  intro i hi
  rcases rdB_cases hi with rfl | hi | hi | ⟨x, hx, hi⟩
  · exact h.base
  · exact (h.rd.rest.lt hi).1
  · exact (h.rd.ready.lt.1 i hi).1
  · exact (h.rd.ready.lt.2 x hx i hi).1
/-- the others' blocks turn, or others are theirs -/
theorem RS.other {B : Nat} {O O' T : List Nat} {w w' : World} {p : Nat} {u v : Value} {l : List UInt8} {X : List FI} {e : Int} (h : RS B O w p u v l X e) (hf : Fr T w w') (hT : ∀ i ∈ T, i < w.heap.size → i ∈ O) (hO : ∀ i ∈ O', i < w.heap.size → i ∈ O) : RS B O' w' p u v l X e := by
  have ho : ∀ i ∈ rdB p u v X, i ∉ T := fun i hi hm => h.apart i hi (hT i hm (h.rd.lt i hi))
  exact ⟨h.rd.fr hf (ho _ (rdB_p ..)) (fun g hg => ho g (rdB_u hg)) (fun g hg => ho g (rdB_v hg)) (fun x hx g hg => ho g (rdB_x hx hg)), fun i hi hm => h.apart i hi (hO i hm (h.rd.lt i hi)), h.base⟩
theorem RS.keep {B : Nat} {O : List Nat} {w w' : World} {p : Nat} {u v : Value} {l : List UInt8} {X : List FI} {e : Int} (h : RS B O w p u v l X e) (hf : Fr [] w w') : RS B O w' p u v l X e := h.other hf (fun _ h => (List.not_mem_nil h).elim) fun _ h _ => h
/-- the next frame is taken: it is another's now -/
theorem RS.next {B : Nat} {O : List Nat} {w : World} {p : Nat} {u v : Value} {l : List UInt8} {x : FI} {X : List FI} {e : Int} (h : RS B O w p u v l (x :: X) e) :
    Calls Tryd.prog 25 #[.pointer (some ⟨p, 0, none⟩)] w fun y w' => y = .returned (.tuple #[.agg #[.int .i64 (I8 x.t), .slice x.a x.d.length x.c], .bool true]) ∧
      ∃ v', RS B (x.v.ownBlock.toList ++ O) w' p u v' l X e ∧ w'.ownsRow B 5 1 x.v x.d.length (x.d.map B8) ∧ (∀ g, x.v.ownBlock = some g → g ∉ O ∧ B ≤ g) ∧ Fr [p] w w' ∧ p ∉ O := by
  refine (Next_some B p u v l x X e w h.rd).mono ?_
  rintro y w' ⟨rfl, v', hr, hv, ho, hf⟩
  have hsub : ∀ i ∈ rdB p u v' X, i ∈ rdB p u v (x :: X) := by
    intro i hi
    rcases rdB_cases hi with rfl | hi | hi | ⟨y, hy, hi⟩
    · exact rdB_p ..
    · exact rdB_u hi
    · exact rdB_v (hv i hi)
    · exact rdB_x (List.mem_cons_of_mem _ hy) hi
  refine ⟨rfl, v', ⟨hr, fun i hi hm => ?_, h.base⟩, ho, fun g hg => ⟨h.apart g (rdB_x List.mem_cons_self hg), h.ge g (rdB_x List.mem_cons_self hg)⟩, hf, h.apart p (rdB_p ..)⟩
  rcases List.mem_append.1 hm with hm | hm
  · have hm : x.v.ownBlock = some i := by simpa using hm
    rcases rdB_cases hi with rfl | hi | hi | ⟨y, hy, hi⟩
    · exact own_ty (h.rd.ready.dat x List.mem_cons_self) h.rd.obj (by decide) hm
    · exact h.rd.sep x List.mem_cons_self i hm hi
    · exact h.rd.ready.off x List.mem_cons_self i hm (hv i hi)
    · exact (List.pairwise_cons.1 h.rd.ready.dis).1 y hy i hm hi
  · exact h.apart i (hsub i hi) hm
/-- a piece is fed -/
theorem RS.feed {B : Nat} {O : List Nat} {w : World} {p : Nat} {u v : Value} {l ch : List UInt8} {X : List FI} (h : RS B O w p u v l X 0) (hO : ∀ i ∈ O, i < w.heap.size) (a : Option Addr) (c : Nat) (hb : Bytes w a ch) (hno : a = none → c = 0) (hn : Nib w) (hS : 0 < B)
    (hl : l.length + ch.length ≤ 140737488351300) (hx : X.length + l.length + ch.length ≤ 4398046511000) (hB : B ≤ w.heap.size) :
    Calls Tryd.prog 23 #[.pointer (some ⟨p, 0, none⟩), .slice a ch.length c] w fun y w' => y = .returned (.int .i64 (run (l ++ ch)).2.2) ∧
      ∃ u' v' X1 T, RS B O w' p u' v' (if (run (l ++ ch)).2.2 = 0 then (l ++ ch).drop (run (l ++ ch)).2.1 else []) (X ++ X1) (run (l ++ ch)).2.2 ∧ X1.map FI.fr = (run (l ++ ch)).1 ∧ Fr T w w' ∧ (∀ i ∈ T, i ∉ O ∧ B ≤ i) := by
  have hb2 := h.base
  refine (Feed_ok B p u v l ch X a c w h.rd hb hno hn (by omega) hS hl hx hB).mono ?_
  rintro y w' ⟨u', v', X1, rfl, hr, hm, hf, hu, hv, hX⟩
  refine ⟨rfl, u', v', X1, _, ⟨hr, fun i hi hm => ?_, h.base⟩, hm, hf, fun i hi => ?_⟩
  · have hlt := hO i hm
    rcases rdB_cases hi with rfl | hi | hi | ⟨y, hy, hi⟩
    · exact h.apart i (rdB_p ..) hm
    · rcases hu i hi with h1 | h1
      · exact h.apart i (rdB_u h1) hm
      · omega
    · rcases hv i hi with h1 | h1
      · exact h.apart i (rdB_v h1) hm
      · omega
    · rcases List.mem_append.1 hy with hy | hy
      · exact h.apart i (rdB_x hy hi) hm
      · have := hX y hy i hi; omega
  · have : i ∈ rdB p u v X := by
      rcases List.mem_cons.1 hi with rfl | hi
      · exact rdB_p ..
      · rcases List.mem_append.1 hi with hi | hi
        · exact rdB_u (by simpa using hi)
        · exact rdB_v (by simpa using hi)
    exact ⟨h.apart i this, h.ge i this⟩
/-- the lists of the law: what was fed, the frames of it -/
structure OT (w0 w : World) (fv av : Value) (FED : List UInt8) (Y : List FI) : Prop where
  fed : Grow [] w0 w fv FED
  all : FrL w w0.heap.size av Y
def otB (fv av : Value) (Y : List FI) : List Nat := fv.ownBlock.toList ++ (av.ownBlock.toList ++ Y.flatMap fun x => x.v.ownBlock.toList)
theorem otB_f {g : Nat} {fv av : Value} {Y : List FI} (h : fv.ownBlock = some g) : g ∈ otB fv av Y := List.mem_append_left _ (by simpa using h)
theorem otB_a {g : Nat} {fv av : Value} {Y : List FI} (h : av.ownBlock = some g) : g ∈ otB fv av Y := List.mem_append_right _ (List.mem_append_left _ (by simpa using h))
theorem otB_y {g : Nat} {fv av : Value} {Y : List FI} {y : FI} (hy : y ∈ Y) (h : y.v.ownBlock = some g) : g ∈ otB fv av Y := List.mem_append_right _ (List.mem_append_right _ (List.mem_flatMap.2 ⟨y, hy, by simpa using h⟩))
theorem otB_cases {g : Nat} {fv av : Value} {Y : List FI} (h : g ∈ otB fv av Y) : fv.ownBlock = some g ∨ av.ownBlock = some g ∨ ∃ y ∈ Y, y.v.ownBlock = some g := by
  rcases List.mem_append.1 h with h | h
  · exact .inl (by simpa using h)
  rcases List.mem_append.1 h with h | h
  · exact .inr (.inl (by simpa using h))
  · obtain ⟨x, hx, h⟩ := List.mem_flatMap.1 h
    exact .inr (.inr ⟨x, hx, by simpa using h⟩)
theorem OT.lt {w0 w : World} {fv av : Value} {FED : List UInt8} {Y : List FI} (h : OT w0 w fv av FED Y) : ∀ i ∈ otB fv av Y, w0.heap.size ≤ i ∧ i < w.heap.size := by
  intro i hi
  rcases otB_cases hi with hi | hi | ⟨y, hy, hi⟩
  · exact own_lt h.fed.own hi
  · exact own_lt h.all.row hi
  · exact own_lt (h.all.dat y hy) hi
theorem OT.fr {T : List Nat} {w0 w w' : World} {fv av : Value} {FED : List UInt8} {Y : List FI} (h : OT w0 w fv av FED Y) (hf : Fr T w w') (hT : ∀ i ∈ T, i ∉ otB fv av Y ∧ w0.heap.size ≤ i) : OT w0 w' fv av FED Y := by
  refine ⟨⟨own_fr h.fed.own hf fun g hg hm => (hT g hm).1 (otB_f hg), h.fed.nil, fun g hg => (List.not_mem_nil hg).elim, h.fed.fr.next hf fun i hi hlt => ?_⟩, h.all.fr hf (fun g hg hm => (hT g hm).1 (otB_a hg)) fun y hy g hg hm => (hT g hm).1 (otB_y hy hg)⟩
  have := (hT i hi).2
  omega
theorem OT.keep {w0 w w' : World} {fv av : Value} {FED : List UInt8} {Y : List FI} (h : OT w0 w fv av FED Y) (hf : Fr [] w w') : OT w0 w' fv av FED Y := h.fr hf fun _ h => (List.not_mem_nil h).elim
/-- what is left, and the error, behind what was fed -/
def restF (L : List UInt8) : List UInt8 := if (run L).2.2 = 0 then L.drop (run L).2.1 else []
/-- a piece more -/
theorem run_more (L c : List UInt8) (h : (run L).2.2 = 0) : (run (L ++ c)).2.2 = (run (restF L ++ c)).2.2 ∧ (run (L ++ c)).1 = (run L).1 ++ (run (restF L ++ c)).1 ∧ restF (L ++ c) = restF (restF L ++ c) ∧ ((run (L ++ c)).2.2 = 0 → (L ++ c).length - (run (L ++ c)).2.1 = (restF (L ++ c)).length) := by
  have ha := run_app c _ L (Nat.le_refl _) h
  have hr : restF L = L.drop (run L).2.1 := if_pos h
  rw [← hr] at ha
  have h1 : (run (L ++ c)).2.2 = (run (restF L ++ c)).2.2 := by rw [ha]
  refine ⟨h1, by rw [ha], ?_, fun h0 => ?_⟩
  · show (if _ then _ else _) = (if _ then _ else _)
    rw [h1]
    by_cases h2 : (run (restF L ++ c)).2.2 = 0
    · rw [if_pos h2, if_pos h2, ha]
      simp only []
      rw [← List.drop_drop, List.drop_append_of_le_length (run_end L).1, hr]
    · rw [if_neg h2, if_neg h2]
  · unfold restF
    rw [if_pos h0, List.length_drop]
end Go.Proofs.YtkgfdcagninphaaDoor
