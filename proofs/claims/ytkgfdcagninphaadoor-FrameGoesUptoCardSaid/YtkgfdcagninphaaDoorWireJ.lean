/- The walks of wire's Reader and of the document's. -/
import Derived.Test.YtkgfdcagninphaaDoorWireH
namespace Go.Proofs.YtkgfdcagninphaaDoor
open Go.RowKit
attribute [local go_sem] mulU256 wrapU_nat wrapU_I8 wrapU addU mulU remU divU byteU shrU I8_ne I8_eq U_eq U_ne
theorem Clone_some (ad : Addr) (cap : Nat) (l : List UInt8) (w : World) (hl : l.length ≤ 140737488351300) (hb : Bytes w (some ad) l) :
    Calls Tryd.prog 34 #[.slice (some ad) l.length cap] w fun e w' => ∃ v, e = .returned v ∧ Fresh w.heap.size w w' v l := by
  have qT : ∀ (w : World) (a : Option Addr) (n c n' c' : Nat), (binOp .eql 23 (.slice a n c) (.slice none n' c')).run Tryd.prog w = .ok (.bool a.isNone) w := fun w a n c n' c' => Lib.run_eql_slice_nil w _ _ a n c n' c' Tryd.underlying23
  have hb2 : Bytes (w.alloc (.cells #[] 5)) (some ad) l := hb.keep ((Fr.refl _ _).alloc _)
  go_enter Tryd.func34, Tryd.ntmps34
  go_wp2_with (at_builtin; refine wpList_apB _ rfl _ _ 23 rfl w.heap.size 5 Tryd.underlying23 info8 (.slice (some ⟨w.heap.size, 0, none⟩) 0 0) [] rfl (own_empty w 5) (some ad) _ cap l rfl rfl hb2 (fun h => by cases h) (by simp; omega) (by simp) ?_; intro v' w1 happ; have HA := Lib.hid happ; clear happ)
  go_ret
  have ha := HA.out
  exact ⟨v', rfl, Fresh.mk ha.own (fun e => by have := (ha.nil.1 e).1; cases this) (((Fr.refl _ _).alloc _).next ha.fr (by intro i hi hlt; simp [Value.ownBlock] at hi; omega))⟩

end Go.Proofs.YtkgfdcagninphaaDoor
