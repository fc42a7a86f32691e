/- A region that draws its order, inside a round of a range over a function: by the walk of an ordinary region. No program. -/
import Derived.Test.YtkgfdcagninphaaDoorRange
import Derived.Deep.RegionHeld3
import Derived.OrdersIn
namespace Go.Proofs.YtkgfdcagninphaaDoor
open Go.RowKit

/-- Q, but False where the call is outgrown, or panics -/
def NoOut (Q : Exit → Act → World → Prop) : Exit → Act → World → Prop
  | .outgrown, _, _ => False
  | .panic _, _, _ => False
  | e, a, w => Q e a w
theorem NoOut.normal {Q : Exit → Act → World → Prop} {a : Act} {w : World} (h : Q .normal a w) : NoOut Q .normal a w := h
theorem NoOut.out {Q : Exit → Act → World → Prop} (h : LetsOut (NoOut Q)) : False := by
  obtain ⟨_, _, h⟩ := h
  exact h
def notDefer (o : Oper) : Bool := match o.op with | .defer _ => false | _ => true
theorem notDefer_ne {o : Oper} (h : notDefer o = true) (c : _) : o.op ≠ .defer c := by
  intro e
  unfold notDefer at h
  rw [e] at h
  cases h
section
variable {P : Program} {l n : Nat} {md : Region.Mode} {ops : Array Oper} {Q : Exit → Act → World → Prop}
theorem oper_round {o : Oper} (hd : notDefer o = true) {a : Act} {w : World} {K K' : Act → World → Prop} (hK : ∀ a w, K a w → K' a w) (h : o.wp P a w K (NoOut Q)) : o.wpIn (Fence.wide.inRound l) n P a w K' Q := by
  refine ⟨fun _ _ => trivial, ?_⟩
  rw [Fence.inRound_round, Oper.semAt_eq _ _ _ (notDefer_ne hd)]
  unfold Oper.wp at h
  generalize (execOp a.eval o).run P w = r at h
  cases r with
  | ok x w' =>
    cases x with
    | value v => exact hK _ _ h
    | skip => exact hK _ _ h
    | defer d => exact hK _ _ h
    | enter f args =>
      refine ⟨fun hh => by simp [Fence.wide] at hh, CallsIn.inRound l (callsIn_wide.2 (Calls.mono h ?_))⟩
      intro e w'' he
      cases e with
      | returned v => exact hK _ _ he
      | panicked c => exact False.elim he
      | outgrown => exact (NoOut.out he).elim
    | row r args =>
      refine ⟨fun hh => by simp [Fence.wide] at hh, fun c cs _ => ?_⟩
      obtain ⟨v, w'', h1, h2⟩ := h c cs
      exact ⟨v, w'', hK _ _ h1, stepsIn_wide.2 h2⟩
    | _ => exact False.elim h
  | halt x w' =>
    cases x with
    | panic v => exact False.elim h
    | _ => exact False.elim h
theorem any_round (hd : (ops.toList.all notDefer) = true) : ∀ (fuel : Nat) (listed : Array Bool) (a : Act) (w : World), wpAny P md ops (NoOut Q) fuel listed a w → wpAnyIn (Fence.wide.inRound l) n P md ops Q fuel listed a w
  | 0, _, _, _, h => ⟨h.1, h.2⟩
  | fuel + 1, listed, a, w, h => by
    refine ⟨fun h0 => h.1 h0, fun i hi => ?_⟩
    have hi2 := h.2 i hi
    unfold wpOp at hi2
    unfold wpOpIn
    cases ho : ops[i]? with
    | none =>
      rw [ho] at hi2
      exact any_round hd fuel _ a w hi2
    | some o =>
      rw [ho] at hi2
      simp only at hi2 ⊢
      have hdo : notDefer o = true := List.all_eq_true.1 hd o (by
        obtain ⟨h1, h2⟩ := Array.getElem?_eq_some_iff.1 ho
        rw [← h2]
        exact Array.getElem_mem_toList h1)
      by_cases hw : Region.wanted o (yielded ops a.tmps) = true
      · rw [if_pos hw] at hi2 ⊢
        rcases hi2 with h2 | ⟨_, h2⟩
        · exact oper_round hdo (fun a' w' h' => any_round hd fuel _ a' w' h') h2
        · exact (NoOut.out h2).elim
      · rw [if_neg hw] at hi2 ⊢
        exact ⟨fun _ _ => trivial, any_round hd fuel _ _ w hi2⟩
/-- **The region's walk in a round**: begin here, and go on with 'wpAnyH_take', 'wpAnyH_ready', 'wpAnyH_done'. -/
theorem region_round {S : World → Prop} {id : Nat} {a : Act} {w : World} (hm : P.follows .mixedOrders = true) (hd : (ops.toList.all notDefer) = true) (hS : S w.drew) (h : S w.drew → wpAnyH P .any ops (NoOut Q) S ops.size (Array.replicate ops.size false) a w.drew) :
    (Code.region id ops true).wpIn (Fence.wide.inRound l) n P Q a w :=
  wpIn_region_any hm (any_round hd _ _ _ _ (wpAny_of_held _ _ _ _ (h hS)))
end
end Go.Proofs.YtkgfdcagninphaaDoor
