/- Record files: Bytes. -/
import Derived.Test.YtkcipbjikimlfaaRfE
import Derived.Test.YtkcipbjikimlfaaFrB
namespace Go.Proofs.Ytkcipbjikimlfaa
open Go.RowKit
attribute [local go_sem ↓] Go.wp_at_zero Go.wp_at_succ
/-- a Writer in use, beside blocks that are made later -/
structure WtrG (G : List Nat) (w0 w : World) (p : Nat) (l : List UInt8) : Prop where
  ex : ∃ v, w.heap[p]? = some (.cells #[v] 67) ∧ w.ownsRow w0.heap.size 5 1 v l.length (l.map B8) ∧ v.ownBlock ≠ some p ∧ ∀ g ∈ G, v.ownBlock ≠ some g
  lo : w0.heap.size ≤ p
  fr : Fr [] w0 w
  off : ∀ g ∈ G, g ≠ p ∧ g < w.heap.size
theorem Wtr.toG {G : List Nat} {w0 w w1 : World} {p : Nat} {l : List UInt8} (h : Wtr w0 w p l) (hf : Fr [] w w1) (hG : ∀ g ∈ G, w.heap.size ≤ g ∧ g < w1.heap.size) : WtrG G w0 w1 p l := by
  obtain ⟨v, h1, h2, h3⟩ := h.ex
  refine ⟨⟨v, hf.obj h1 (by simp), own_fr h2 hf (by simp), h3, fun g hg e => ?_⟩, h.lo, h.fr.trans hf, fun g hg => ⟨?_, (hG g hg).2⟩⟩
  · have := (own_lt h2 e).2
    have := (hG g hg).1
    omega
  · have := (Array.getElem?_eq_some_iff.1 h1).1
    have := (hG g hg).1
    omega
theorem WtrG.toW {G : List Nat} {w0 w : World} {p : Nat} {l : List UInt8} (h : WtrG G w0 w p l) : Wtr w0 w p l := by
  obtain ⟨v, h1, h2, h3, _⟩ := h.ex
  exact ⟨⟨v, h1, h2, h3⟩, h.lo, h.fr⟩
theorem WtrG.still {G : List Nat} {w0 w w' : World} {p : Nat} {l : List UInt8} (h : WtrG G w0 w p l) (hf : Fr [] w w') : WtrG G w0 w' p l := by
  obtain ⟨v, h1, h2, h3, h4⟩ := h.ex
  exact ⟨⟨v, hf.obj h1 (by simp), own_fr h2 hf (by simp), h3, h4⟩, h.lo, h.fr.trans hf, fun g hg => ⟨(h.off g hg).1, Nat.lt_of_lt_of_le (h.off g hg).2 hf.size⟩⟩
theorem WtrG.puts {G : List Nat} {w0 w w' : World} {p : Nat} {v v' : Value} {l l' : List UInt8} (h1 : w.heap[p]? = some (.cells #[v] 67)) (h2 : w.ownsRow w0.heap.size 5 1 v l.length (l.map B8)) (h3 : v.ownBlock ≠ some p) (h4 : ∀ g ∈ G, v.ownBlock ≠ some g) (hlo : w0.heap.size ≤ p) (hfr : Fr [] w0 w) (hoff : ∀ g ∈ G, g ≠ p ∧ g < w.heap.size)
    (hp : Puts w0.heap.size w w' p v v' l') : WtrG G w0 w' p l' ∧ ∃ T, Fr T w w' ∧ ∀ g ∈ G, g ∉ T := by
  have hW := Wtr.puts hlo hfr h1 h2 h3 hp
  obtain ⟨u, a1, a2, a3⟩ := hW.ex
  have hu : u = v' := by
    have := hp.obj
    rw [a1] at this
    simpa using this
  subst hu
  refine ⟨⟨⟨u, a1, a2, a3, fun g hg e => ?_⟩, hlo, hW.fr, fun g hg => ⟨(hoff g hg).1, Nat.lt_of_lt_of_le (hoff g hg).2 hp.fr.size⟩⟩, _, hp.fr, fun g hg hm => ?_⟩
  · rcases hp.blk with hb | ⟨g', hb, hg'⟩
    · exact h4 g hg (hb ▸ e)
    · rw [hb] at e
      have := Option.some.inj e
      have := (hoff g hg).2
      omega
  · rcases List.mem_cons.1 hm with hm | hm
    · exact (hoff g hg).1 hm
    · exact h4 g hg (by simpa using hm)
theorem NumG (G : List Nat) (w0 w : World) (p : Nat) (l : List UInt8) (wd : Nat) (z : Int) (h : WtrG G w0 w p l) (hw : Wd wd) (h0 : 0 ≤ z) (h1 : z < 18446744073709551616) (hroom : l.length ≤ 140737488351300) :
    Calls Try.prog 23 #[.pointer (some ⟨p, 0, none⟩), .int .i64 wd, .int .u64 z] w fun e w' => e = .returned (.tuple #[]) ∧ WtrG G w0 w' p (l ++ by8 wd z.toNat) ∧ ∃ T, Fr T w w' ∧ ∀ g ∈ G, g ∉ T := by
  obtain ⟨v, a, b, c, d⟩ := h.ex
  exact (Num_int w0.heap.size p v l wd z w a b c h.fr.size hw h0 h1 hroom).mono fun e w' ⟨he, v', hp⟩ => ⟨he, WtrG.puts a b c d h.lo h.fr h.off hp⟩
theorem RawG (G : List Nat) (w0 w : World) (p : Nat) (l : List UInt8) (a : Option Addr) (cap : Nat) (m : List UInt8) (h : WtrG G w0 w p l) (hb : Bytes w a m) (hnone : a = none → cap = 0) (hroom : l.length + m.length ≤ 140737488355328) :
    Calls Try.prog 24 #[.pointer (some ⟨p, 0, none⟩), .slice a m.length cap] w fun e w' => e = .returned (.tuple #[]) ∧ WtrG G w0 w' p (l ++ m) ∧ ∃ T, Fr T w w' ∧ ∀ g ∈ G, g ∉ T := by
  obtain ⟨v, x, y, z, u⟩ := h.ex
  exact (Raw_any w0.heap.size p v l a cap m w x y z h.fr.size hb hnone hroom).mono fun e w' ⟨he, v', hp⟩ => ⟨he, WtrG.puts x y z u h.lo h.fr h.off hp⟩
theorem magic_len : magicB.length = 4 := rfl
theorem magic_str : (⟨#[83, 82, 69, 67]⟩ : ByteArray) = ⟨magicB.toArray⟩ := rfl
theorem bodyB_take (sz : Nat) (R : Recs) (k : Nat) (o : Option (List UInt8)) (h : R[k]? = some o) : bodyB sz (R.take (k + 1)) = bodyB sz (R.take k) ++ recB sz o := by
  rw [List.take_add_one, h, bodyB_append]
  congr 1
  show bodyB sz [o] = _
  rw [bodyB_cons, bodyB_nil, List.append_nil]
theorem bodyB_take_len {sz : Nat} {R : Recs} (h : Sized sz R) (k : Nat) : (bodyB sz (R.take k)).length ≤ R.length * sz := by
  rw [bodyB_length (R := R.take k) fun d hd => h d (List.mem_of_mem_take hd), List.length_take]
  exact Nat.mul_le_mul_right _ (by omega)
end Go.Proofs.Ytkcipbjikimlfaa
