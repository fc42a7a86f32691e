/- The walks of what makes memory: clone, the digests; and the two sums that the document fixes. -/
import Derived.Test.YtfdohojnadpohaaDoorCrcB
import Derived.Lib.SlBytesConst
namespace Go.Proofs.YtfdohojnadpohaaDoor
open Go.RowKit
attribute [local go_sem] bits_not32 bits_xor32 bits_xor32_ones

theorem Nib.fr {S : List Nat} {w w' : World} (h : Nib w) (hf : Fr S w w') (hS : 0 ∉ S) : Nib w' := fun i hi => hf.cell (h i hi) hS
theorem Nib.keep {w w' : World} (h : Nib w) (hf : Fr [] w w') : Nib w' := h.fr hf (by simp)

theorem info8 : (Tryd.prog.info? 5).map (fun i => (i.zero, i.size, i.bytes)) = some (some (.int .u8 0), 1, 1) := by kernel_rfl

/-- new memory that reads as the bytes did -/
def Fresh (B : Nat) (w w' : World) (v : Value) (l : List UInt8) : Prop :=
  ∃ g cap, v = .slice (some ⟨g, 0, none⟩) l.length cap ∧ B ≤ g ∧ g < w'.heap.size ∧ w'.ownsRow B 5 1 v l.length (l.map B8) ∧ Fr [] w w'

theorem clone_any (a : Option Addr) (n cap : Nat) (l : List UInt8) (w : World) (hl : l.length = n) (hn : n ≤ 140737488351232) (hc : a = none → cap = 0) (hb : Bytes w a l) :
    Calls Tryd.prog 12 #[.slice a n cap] w fun e w' => ∃ v, e = .returned v ∧ Fresh w.heap.size w w' v l := by
  have hb2 : Bytes (w.alloc (.cells #[] 5)) a l := hb.keep ((Fr.refl _ _).alloc _)
  have HC := Lib.hid hc; clear hc
  go_enter Tryd.func12, Tryd.ntmps12
  go_wp2_with (at_builtin; refine wpList_appB _ rfl _ _ 22 rfl w.heap.size 5 Tryd.underlying22 info8 (.slice (some ⟨w.heap.size, 0, none⟩) 0 0) [] rfl (own_empty w 5) a n cap l rfl hl hb2 HC.out (by simp; omega) (by simp) ?_; intro v' w1 hown0 hgr0 hnil0; have hnil := Lib.hid hnil0; have hown := Lib.hid hown0; have hgr := Lib.hid hgr0; clear hown0 hgr0 hnil0)
  go_ret
  refine ⟨v', rfl, ?_⟩
  have hown : w1.ownsRow w.heap.size 5 1 v' l.length (l.map B8) := hown.out
  have hnil := hnil.out
  have hgr := hgr.out
  have hx := hown.2
  rcases hx with ⟨rfl, h0⟩ | ⟨g, cap', cur, rfl, hg, hh, _⟩
  · exact absurd (hnil.1 rfl).1 (by simp)
  · exact ⟨g, cap', rfl, hg, (Array.getElem?_eq_some_iff.1 hh).1, hown, ((Fr.refl _ _).alloc _).next (Fr.of_grown hgr [w.heap.size] (by intro k hk _; simp [Value.ownBlock] at hk; simp [hk])) (by intro i hi hlt; simp at hi; omega)⟩

theorem Fresh.bytes {B : Nat} {w w' : World} {v : Value} {l : List UInt8} (h : Fresh B w w' v l) : ∃ g cap, v = .slice (some ⟨g, 0, none⟩) l.length cap ∧ B ≤ g ∧ g < w'.heap.size ∧ Bytes w' (some ⟨g, 0, none⟩) l ∧ Fr [] w w' := by
  obtain ⟨g, cap, rfl, hg, hlt, ho, hf⟩ := h
  obtain ⟨a, cap', e, hb, _⟩ := Bytes.of_own ho
  simp only [Value.slice.injEq] at e
  obtain ⟨rfl, _, rfl⟩ := e
  exact ⟨g, _, rfl, hg, hlt, hb, hf⟩

theorem Fresh.free {B : Nat} {w w' : World} {v : Value} {l : List UInt8} (h : Fresh B w w' v l) : ∀ g, v.ownBlock = some g → ∀ j, w'.frozen? ⟨g, j, none⟩ = false := by
  intro g hg j
  obtain ⟨_, _, rfl, _, _, ho, _⟩ := h
  rcases ho.2 with ⟨e, _⟩ | ⟨g', cap', cur, e, _, hh, _⟩
  · cases e
  · simp only [Value.slice.injEq, Option.some.injEq, Addr.mk.injEq] at e
    obtain ⟨⟨rfl, _⟩, _⟩ := e
    simp only [Value.ownBlock, Option.some.injEq] at hg
    subst hg
    exact frozen_of_row w' _ j _ _ hh
theorem sum9 : I32 (P.update 0#32 (lb [49, 50, 51, 52, 53, 54, 55, 56, 57])) = 3421780262 := I32_lit _ _ (by decide +kernel)
theorem sum1 : I32 (P.update 0#32 (lb [0])) = 3523407757 := I32_lit _ _ (by decide +kernel)

set_option maxRecDepth 100000 in
theorem speaks_any (w : World) (hn : Nib w) : Calls Tryd.prog 10 #[] w fun e w' => e = .returned (.bool true) ∧ Fr [] w w' := by
  have h9 := sum9
  have h1 := sum1
  have kc := fun (w : World) (C : Array Value) (n c : Nat) => Lib.run_convert_bytes_const (P := Tryd.prog) w 22 5 C n c Tryd.underlying22 Tryd.underlying5
  go_enter Tryd.func10, Tryd.ntmps10
  go_wp2_with fail
  refine (sum_any _ 9 9 (lb [49, 50, 51, 52, 53, 54, 55, 56, 57]) _ rfl (by omega) ?_ ?_).mono ?_
  · exact Bytes.lit _ rfl rfl rfl
  · exact hn.keep ((Fr.refl _ _).alloc _)
  rintro e w1 ⟨rfl, rfl⟩
  go_wp2_with fail
  refine (sum_any _ 1 1 (lb [0]) _ rfl (by omega) ?_ ?_).mono ?_
  · exact Bytes.lit (w := w.alloc _) [0] (by simp) rfl rfl
  · exact hn.keep (((Fr.refl _ _).alloc _).alloc _)
  rintro e w1 ⟨rfl, rfl⟩
  go_wp2_with fail
  go_ret
  exact ⟨rfl, ((Fr.refl _ _).alloc _).alloc _⟩
end Go.Proofs.YtfdohojnadpohaaDoor
