/- A range over a function, by what the iterator's contract says at the caller's own loop. No program. -/
import Derived.RangeFuncNested
import Derived.RangeFuncBound
import Derived.RangeFuncCalls
import Derived.RangeFuncLeaves
import Derived.Shelf.Abstract
import Derived.Shelf.RegionOpen
import Derived.WalkKit
import Derived.OwnWalkIn
import Derived.TacticsInMore
import Derived.LoopNIn
import Derived.LoopIn
import Derived.Test.YtkgfdcagninphaaDoorMem
namespace Go.Proofs.YtkgfdcagninphaaDoor
open Go.RowKit Go.Shelf

/-- a loop's record in the heap -/
def lpR (fn : FuncId) (tmps : Array Value) (ps : Array Tmp) (assign body : Code) (D : Nat) (st : LoopState) (pe : Option Code) : Obj :=
  .loop { state := st, pending := pe, fn := fn, tmps := tmps, params := ps, assign := assign, body := body, defers := D }
theorem Fr.putObj {S : List Nat} {a w : World} (h : Fr S a w) {l : Nat} (hl : l < a.heap.size → l ∈ S) (o : Obj) : Fr S a (w.putObj l o) :=
  ⟨h.os, h.tape, h.output, by have := h.size; simpa using this, fun k hk hn => (World.putObj_heap_other (fun e => hn (by rw [e]; exact hl (by rw [← e]; exact hk)))).trans (h.block k hk hn)⟩
section
variable {P : Program} {n : Nat}
/-- the statement, out of the iterator's contract at this very loop -/
theorem range_wide {g : Operand} {ps : Array Tmp} {assign body : Code} {Q : Exit → Act → World → Prop} {a : Act} {w : World} {gf : Nat} {lb : Array Value}
    (hg : a.eval g = .func (.func gf) #[] lb) (eg : ∀ args w, (callFunc gf args).run P w = .ok (.enter gf args) w)
    (h : ∀ (fn : FuncId) (W1 : World), W1.heap[w.heap.size + 1]? = some (lpR fn a.tmps ps assign body w.heap.size .ready none) → W1.heap[w.heap.size]? = some (.deferred (some [])) → Fr [] w W1 → W1.heap.size = w.heap.size + 2 →
      CallsIn Fence.wide (n - 1) P gf (#[.func (.yield (w.heap.size + 1)) #[] #[]] ++ lb) W1 (fun e W2 => (∃ v, e = .returned v) ∧
        ((W2.heap[w.heap.size + 1]? = some (lpR fn a.tmps ps assign body w.heap.size .ready none) ∧
            Q .normal { a with defers := { target := .collected w.heap.size, args := #[] } :: a.defers } (W2.putObj (w.heap.size + 1) (lpR fn a.tmps ps assign body w.heap.size .exhausted none))) ∨
         (∃ c, W2.heap[w.heap.size + 1]? = some (lpR fn a.tmps ps assign body w.heap.size .done (some c)) ∧
            c.wpIn Fence.wide n P Q { a with defers := { target := .collected w.heap.size, args := #[] } :: a.defers } (W2.putObj (w.heap.size + 1) (lpR fn a.tmps ps assign body w.heap.size .exhausted (some c))))))) :
    (Code.rangeFunc g ps assign body).wpIn Fence.wide n P Q a w := by
  refine wpIn_rangeFunc ?_
  intro fn _
  obtain ⟨W1, hW1⟩ : ∃ W1, W1 = (w.alloc (.deferred (some []))).alloc (lpR fn a.tmps ps assign body w.heap.size .ready none) := ⟨_, rfl⟩
  have hL : W1.heap[w.heap.size + 1]? = some (lpR fn a.tmps ps assign body w.heap.size .ready none) := by
    rw [hW1]
    have := World.alloc_heap_new (w.alloc (.deferred (some []))) (lpR fn a.tmps ps assign body w.heap.size .ready none)
    rwa [World.size_alloc] at this
  have hK : W1.heap[w.heap.size]? = some (.deferred (some [])) := by
    rw [hW1]
    exact (Below.heap_alloc _ _ _ (by simp)).trans (World.alloc_heap_new w _)
  refine ⟨w.heap.size + 1, [{ target := .collected w.heap.size, args := #[] }], W1, { target := .fn (.func gf) lb, args := #[.func (.yield (w.heap.size + 1)) #[] #[]] }, W1, gf,
    #[.func (.yield (w.heap.size + 1)) #[] #[]] ++ lb, W1, ?_, ?_, ?_, ?_, ?_, ?_⟩
  · rw [hW1]; exact run_enterLoop_outer _ _ _ _ _
  · simp only [resolve, hg]
    simp [go_sem]
  · intro f' _; trivial
  · simp [invoke, go_sem, eg]
  · intro h; cases h
  · refine (h fn W1 hL hK (by rw [hW1]; exact ((Fr.refl _ _).alloc _).alloc _) (by rw [hW1]; simp)).mono ?_
    rintro e W2 ⟨⟨v, rfl⟩, (⟨hl, hq⟩ | ⟨c, hl, hq⟩)⟩
    · exact ⟨none, _, run_endLoop (P := P) hl (by simp), hq⟩
    · exact ⟨some c, _, run_endLoop (P := P) hl (by simp), hq⟩
/-- what is asked at a round's end -/
def rndPost (l : Nat) (R : LoopState → Option Code → Obj) (T : Ending → World → Prop) : Exit → Act → World → Prop
  | .normal, _, W => W.heap[l]? = some (R .busy none) ∧ T (.returned (.bool true)) (W.putObj l (R .ready none))
  | .ret, _, W => W.heap[l]? = some (R .busy none) ∧ T (.returned (.bool false)) (W.putObj l (R .done (some .ret)))
  | .exit id, _, W => W.heap[l]? = some (R .busy none) ∧ T (.returned (.bool false)) (W.putObj l (R .done (some (.exit id))))
  | .goto t, _, W => W.heap[l]? = some (R .busy none) ∧ T (.returned (.bool false)) (W.putObj l (R .done (some (.goto t))))
  | .panic _, _, _ => False
  | .outgrown, _, _ => False
/-- one round, out of its body's walk -/
theorem yield_wide {l D : Nat} {fn : FuncId} {tmps : Array Value} {ps : Array Tmp} {assign body : Code} {args : Array Value} {W : World} {T : Ending → World → Prop}
    (hl : W.heap[l]? = some (lpR fn tmps ps assign body D .ready none)) (hs : args.size = ps.size)
    (h : assign.wpIn (Fence.wide.inRound l) n P (Exit.then (fun a' Wa => Wa.heap[l]? = some (lpR fn tmps ps assign body D .ready none) ∧
      body.wpIn (Fence.wide.inRound l) n P (rndPost l (lpR fn tmps ps assign body D) T) a' (Wa.putObj l (lpR fn tmps ps assign body D .busy none))) (fun _ _ _ => False))
      { tmps := (ps.zip args).foldl (fun t (p, v) => t.setIfInBounds p v) tmps, defers := [] } W) :
    YieldAt Fence.wide n P l args W T := by
  refine ⟨fn, _, assign, body, run_yield (P := P) hl hs, roundIn_of_wpIn trivial (wpIn_mono h ?_)⟩
  rintro e a' Wa hx
  cases e with
  | normal =>
    obtain ⟨hla, hb⟩ := hx
    refine ⟨_, run_beginRound hla rfl, wpIn_mono hb ?_⟩
    rintro e a3 W3 hp
    cases e with
    | normal => exact ⟨_, _, run_endRound (P := P) none hp.1, hp.2⟩
    | ret => exact ⟨_, _, run_endRound (P := P) (some .ret) hp.1, hp.2⟩
    | exit id => exact ⟨_, _, run_endRound (P := P) (some (.exit id)) hp.1, hp.2⟩
    | goto t => exact ⟨_, _, run_endRound (P := P) (some (.goto t)) hp.1, hp.2⟩
    | panic ch => exact hp.elim
    | outgrown => exact hp.elim
  | ret => exact hx.elim
  | exit id => exact hx.elim
  | goto t => exact hx.elim
  | panic ch => exact hx.elim
  | outgrown => exact hx.elim
/-- the function that held the loop returns -/
theorem mark_ret {fn : Func} {R : Ending → World → Prop} {tmps : Array Value} {D : Nat} {W : World} {v : Value} (hK : W.heap[D]? = some (.deferred (some [])))
    (hr : (results fn tmps).run P (W.putObj D (.deferred none)) = .ok v (W.putObj D (.deferred none))) (hR : R (.returned v) (W.putObj D (.deferred none))) :
    bodyPostM Fence.wide n P fn R .ret { tmps := tmps, defers := [{ target := .collected D, args := #[] }] } W :=
  ⟨by simp, .inl ⟨_, _, rfl, run_takeDeferred hK, ⟨_, hr, hR⟩⟩⟩
theorem mark_end {fn : Func} {R : Ending → World → Prop} {tmps : Array Value} {D : Nat} {W : World} {v : Value} (hK : W.heap[D]? = some (.deferred (some [])))
    (hr : (results fn tmps).run P (W.putObj D (.deferred none)) = .ok v (W.putObj D (.deferred none))) (hR : R (.returned v) (W.putObj D (.deferred none))) :
    bodyPostM Fence.wide n P fn R .normal { tmps := tmps, defers := [{ target := .collected D, args := #[] }] } W :=
  ⟨by simp, .inl ⟨_, _, rfl, run_takeDeferred hK, ⟨_, hr, hR⟩⟩⟩
end
attribute [irreducible] lpR
end Go.Proofs.YtkgfdcagninphaaDoor
