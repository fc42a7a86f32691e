/- A range over a function, by what the iterator's contract says at the caller's own loop. No program. -/
import Derived.RangeFuncNested
import Derived.RangeFuncBound
import Derived.RangeFuncCalls
import Derived.RangeFuncLeaves
import Derived.Shelf.Abstract
import Derived.Shelf.RegionOpen
import Derived.WalkKit
import Derived.OwnWalkIn
import Derived.TacticsInMore
import Derived.LoopNIn
import Derived.LoopIn
import Derived.Test.YtlckhfjkdahfpaaDoorMem
import Derived.Deep.RegionHeld3
import Derived.OrdersIn
namespace Go.Proofs.YtlckhfjkdahfpaaDoor
open Go.RowKit Go.Shelf

/-- a loop's record in the heap -/
def lpR (fn : FuncId) (tmps : Array Value) (ps : Array Tmp) (assign body : Code) (D : Nat) (st : LoopState) (pe : Option Code) : Obj :=
  .loop { state := st, pending := pe, fn := fn, tmps := tmps, params := ps, assign := assign, body := body, defers := D }
theorem Fr.putObj {S : List Nat} {a w : World} (h : Fr S a w) {l : Nat} (hl : l < a.heap.size → l ∈ S) (o : Obj) : Fr S a (w.putObj l o) :=
  ⟨h.os, h.tape, h.output, by have := h.size; simpa using this, fun k hk hn => (World.putObj_heap_other (fun e => hn (by rw [e]; exact hl (by rw [← e]; exact hk)))).trans (h.block k hk hn)⟩
section
variable {P : Program} {n : Nat}
/-- the statement, out of the iterator's contract at this very loop -/
theorem range_wide {g : Operand} {ps : Array Tmp} {assign body : Code} {Q : Exit → Act → World → Prop} {a : Act} {w : World} {gf : Nat} {lb : Array Value}
    (hg : a.eval g = .func (.func gf) #[] lb) (eg : ∀ args w, (callFunc gf args).run P w = .ok (.enter gf args) w)
    (h : ∀ (fn : FuncId) (W1 : World), W1.heap[w.heap.size + 1]? = some (lpR fn a.tmps ps assign body w.heap.size .ready none) → W1.heap[w.heap.size]? = some (.deferred (some [])) → Fr [] w W1 → W1.heap.size = w.heap.size + 2 →
      CallsIn Fence.wide (n - 1) P gf (#[.func (.yield (w.heap.size + 1)) #[] #[]] ++ lb) W1 (fun e W2 => (∃ v, e = .returned v) ∧
        ((W2.heap[w.heap.size + 1]? = some (lpR fn a.tmps ps assign body w.heap.size .ready none) ∧
            Q .normal { a with defers := { target := .collected w.heap.size, args := #[] } :: a.defers } (W2.putObj (w.heap.size + 1) (lpR fn a.tmps ps assign body w.heap.size .exhausted none))) ∨
         (∃ c, W2.heap[w.heap.size + 1]? = some (lpR fn a.tmps ps assign body w.heap.size .done (some c)) ∧
            c.wpIn Fence.wide n P Q { a with defers := { target := .collected w.heap.size, args := #[] } :: a.defers } (W2.putObj (w.heap.size + 1) (lpR fn a.tmps ps assign body w.heap.size .exhausted (some c))))))) :
    (Code.rangeFunc g ps assign body).wpIn Fence.wide n P Q a w := by
  refine wpIn_rangeFunc ?_
  intro fn _
  obtain ⟨W1, hW1⟩ : ∃ W1, W1 = (w.alloc (.deferred (some []))).alloc (lpR fn a.tmps ps assign body w.heap.size .ready none) := ⟨_, rfl⟩
  have hL : W1.heap[w.heap.size + 1]? = some (lpR fn a.tmps ps assign body w.heap.size .ready none) := by
    rw [hW1]
    have := World.alloc_heap_new (w.alloc (.deferred (some []))) (lpR fn a.tmps ps assign body w.heap.size .ready none)
    rwa [World.size_alloc] at this
  have hK : W1.heap[w.heap.size]? = some (.deferred (some [])) := by
    rw [hW1]
    exact (Below.heap_alloc _ _ _ (by simp)).trans (World.alloc_heap_new w _)
  refine ⟨w.heap.size + 1, [{ target := .collected w.heap.size, args := #[] }], W1, { target := .fn (.func gf) lb, args := #[.func (.yield (w.heap.size + 1)) #[] #[]] }, W1, gf,
    #[.func (.yield (w.heap.size + 1)) #[] #[]] ++ lb, W1, ?_, ?_, ?_, ?_, ?_, ?_⟩
  · rw [hW1]; exact run_enterLoop_outer _ _ _ _ _
  · simp only [resolve, hg]
    simp [go_sem]
  · intro f' _; trivial
  · simp [invoke, go_sem, eg]
  · intro h; cases h
  · refine (h fn W1 hL hK (by rw [hW1]; exact ((Fr.refl _ _).alloc _).alloc _) (by rw [hW1]; simp)).mono ?_
    rintro e W2 ⟨⟨v, rfl⟩, (⟨hl, hq⟩ | ⟨c, hl, hq⟩)⟩
    · exact ⟨none, _, run_endLoop (P := P) hl (by simp), hq⟩
    · exact ⟨some c, _, run_endLoop (P := P) hl (by simp), hq⟩
/-- what is asked at a round's end -/
def rndPost (l : Nat) (R : LoopState → Option Code → Obj) (T : Ending → World → Prop) : Exit → Act → World → Prop
  | .normal, _, W => W.heap[l]? = some (R .busy none) ∧ T (.returned (.bool true)) (W.putObj l (R .ready none))
  | .ret, _, W => W.heap[l]? = some (R .busy none) ∧ T (.returned (.bool false)) (W.putObj l (R .done (some .ret)))
  | .exit id, _, W => W.heap[l]? = some (R .busy none) ∧ T (.returned (.bool false)) (W.putObj l (R .done (some (.exit id))))
  | .goto t, _, W => W.heap[l]? = some (R .busy none) ∧ T (.returned (.bool false)) (W.putObj l (R .done (some (.goto t))))
  | .panic _, _, _ => False
  | .outgrown, _, _ => False
/-- one round, out of its body's walk -/
theorem yield_wide {l D : Nat} {fn : FuncId} {tmps : Array Value} {ps : Array Tmp} {assign body : Code} {args : Array Value} {W : World} {T : Ending → World → Prop}
    (hl : W.heap[l]? = some (lpR fn tmps ps assign body D .ready none)) (hs : args.size = ps.size)
    (h : assign.wpIn (Fence.wide.inRound l) n P (Exit.then (fun a' Wa => Wa.heap[l]? = some (lpR fn tmps ps assign body D .ready none) ∧
      body.wpIn (Fence.wide.inRound l) n P (rndPost l (lpR fn tmps ps assign body D) T) a' (Wa.putObj l (lpR fn tmps ps assign body D .busy none))) (fun _ _ _ => False))
      { tmps := (ps.zip args).foldl (fun t (p, v) => t.setIfInBounds p v) tmps, defers := [] } W) :
    YieldAt Fence.wide n P l args W T := by
  refine ⟨fn, _, assign, body, run_yield (P := P) hl hs, roundIn_of_wpIn trivial (wpIn_mono h ?_)⟩
  rintro e a' Wa hx
  cases e with
  | normal =>
    obtain ⟨hla, hb⟩ := hx
    refine ⟨_, run_beginRound hla rfl, wpIn_mono hb ?_⟩
    rintro e a3 W3 hp
    cases e with
    | normal => exact ⟨_, _, run_endRound (P := P) none hp.1, hp.2⟩
    | ret => exact ⟨_, _, run_endRound (P := P) (some .ret) hp.1, hp.2⟩
    | exit id => exact ⟨_, _, run_endRound (P := P) (some (.exit id)) hp.1, hp.2⟩
    | goto t => exact ⟨_, _, run_endRound (P := P) (some (.goto t)) hp.1, hp.2⟩
    | panic ch => exact hp.elim
    | outgrown => exact hp.elim
  | ret => exact hx.elim
  | exit id => exact hx.elim
  | goto t => exact hx.elim
  | panic ch => exact hx.elim
  | outgrown => exact hx.elim
/-- the function that held the loop returns -/
theorem mark_ret {fn : Func} {R : Ending → World → Prop} {tmps : Array Value} {D : Nat} {W : World} {v : Value} (hK : W.heap[D]? = some (.deferred (some [])))
    (hr : (results fn tmps).run P (W.putObj D (.deferred none)) = .ok v (W.putObj D (.deferred none))) (hR : R (.returned v) (W.putObj D (.deferred none))) :
    bodyPostM Fence.wide n P fn R .ret { tmps := tmps, defers := [{ target := .collected D, args := #[] }] } W :=
  ⟨by simp, .inl ⟨_, _, rfl, run_takeDeferred hK, ⟨_, hr, hR⟩⟩⟩
theorem mark_end {fn : Func} {R : Ending → World → Prop} {tmps : Array Value} {D : Nat} {W : World} {v : Value} (hK : W.heap[D]? = some (.deferred (some [])))
    (hr : (results fn tmps).run P (W.putObj D (.deferred none)) = .ok v (W.putObj D (.deferred none))) (hR : R (.returned v) (W.putObj D (.deferred none))) :
    bodyPostM Fence.wide n P fn R .normal { tmps := tmps, defers := [{ target := .collected D, args := #[] }] } W :=
  ⟨by simp, .inl ⟨_, _, rfl, run_takeDeferred hK, ⟨_, hr, hR⟩⟩⟩
end
attribute [irreducible] lpR
end Go.Proofs.YtlckhfjkdahfpaaDoor

/- A region that draws its order, inside a round of a range over a function: by the walk of an ordinary region. No program. -/
namespace Go.Proofs.YtlckhfjkdahfpaaDoor
open Go.RowKit

/-- Q, but False where the call is outgrown, or panics -/
def NoOut (Q : Exit → Act → World → Prop) : Exit → Act → World → Prop
  | .outgrown, _, _ => False
  | .panic _, _, _ => False
  | e, a, w => Q e a w
theorem NoOut.normal {Q : Exit → Act → World → Prop} {a : Act} {w : World} (h : Q .normal a w) : NoOut Q .normal a w := h
theorem NoOut.out {Q : Exit → Act → World → Prop} (h : LetsOut (NoOut Q)) : False := by
  obtain ⟨_, _, h⟩ := h
  exact h
def notDefer (o : Oper) : Bool := match o.op with | .defer _ => false | _ => true
theorem notDefer_ne {o : Oper} (h : notDefer o = true) (c : _) : o.op ≠ .defer c := by
  intro e
  unfold notDefer at h
  rw [e] at h
  cases h
section
variable {P : Program} {l n : Nat} {md : Region.Mode} {ops : Array Oper} {Q : Exit → Act → World → Prop}
theorem oper_round {o : Oper} (hd : notDefer o = true) {a : Act} {w : World} {K K' : Act → World → Prop} (hK : ∀ a w, K a w → K' a w) (h : o.wp P a w K (NoOut Q)) : o.wpIn (Fence.wide.inRound l) n P a w K' Q := by
  refine ⟨fun _ _ => trivial, ?_⟩
  rw [Fence.inRound_round, Oper.semAt_eq _ _ _ (notDefer_ne hd)]
  unfold Oper.wp at h
  generalize (execOp a.eval o).run P w = r at h
  cases r with
  | ok x w' =>
    cases x with
    | value v => exact hK _ _ h
    | skip => exact hK _ _ h
    | defer d => exact hK _ _ h
    | enter f args =>
      refine ⟨fun hh => by simp [Fence.wide] at hh, CallsIn.inRound l (callsIn_wide.2 (Calls.mono h ?_))⟩
      intro e w'' he
      cases e with
      | returned v => exact hK _ _ he
      | panicked c => exact False.elim he
      | outgrown => exact (NoOut.out he).elim
    | row r args =>
      refine ⟨fun hh => by simp [Fence.wide] at hh, fun c cs _ => ?_⟩
      obtain ⟨v, w'', h1, h2⟩ := h c cs
      exact ⟨v, w'', hK _ _ h1, stepsIn_wide.2 h2⟩
    | _ => exact False.elim h
  | halt x w' =>
    cases x with
    | panic v => exact False.elim h
    | _ => exact False.elim h
theorem any_round (hd : (ops.toList.all notDefer) = true) : ∀ (fuel : Nat) (listed : Array Bool) (a : Act) (w : World), wpAny P md ops (NoOut Q) fuel listed a w → wpAnyIn (Fence.wide.inRound l) n P md ops Q fuel listed a w
  | 0, _, _, _, h => ⟨h.1, h.2⟩
  | fuel + 1, listed, a, w, h => by
    refine ⟨fun h0 => h.1 h0, fun i hi => ?_⟩
    have hi2 := h.2 i hi
    unfold wpOp at hi2
    unfold wpOpIn
    cases ho : ops[i]? with
    | none =>
      rw [ho] at hi2
      exact any_round hd fuel _ a w hi2
    | some o =>
      rw [ho] at hi2
      simp only at hi2 ⊢
      have hdo : notDefer o = true := List.all_eq_true.1 hd o (by
        obtain ⟨h1, h2⟩ := Array.getElem?_eq_some_iff.1 ho
        rw [← h2]
        exact Array.getElem_mem_toList h1)
      by_cases hw : Region.wanted o (yielded ops a.tmps) = true
      · rw [if_pos hw] at hi2 ⊢
        rcases hi2 with h2 | ⟨_, h2⟩
        · exact oper_round hdo (fun a' w' h' => any_round hd fuel _ a' w' h') h2
        · exact (NoOut.out h2).elim
      · rw [if_neg hw] at hi2 ⊢
        exact ⟨fun _ _ => trivial, any_round hd fuel _ _ w hi2⟩
/-- **The region's walk in a round**: begin here, and go on with 'wpAnyH_take', 'wpAnyH_ready', 'wpAnyH_done'. -/
theorem region_round {S : World → Prop} {id : Nat} {a : Act} {w : World} (hm : P.follows .mixedOrders = true) (hd : (ops.toList.all notDefer) = true) (hS : S w.drew) (h : S w.drew → wpAnyH P .any ops (NoOut Q) S ops.size (Array.replicate ops.size false) a w.drew) :
    (Code.region id ops true).wpIn (Fence.wide.inRound l) n P Q a w :=
  wpIn_region_any hm (any_round hd _ _ _ _ (wpAny_of_held _ _ _ _ (h hS)))
end
end Go.Proofs.YtlckhfjkdahfpaaDoor

/- A region that draws its order, and whose last operations write what its loads have read: the condition on the world is asked only till one of these 'late' operations has come up. No condition, no program. -/
namespace Go.Proofs.YtlckhfjkdahfpaaDoor
open Go.RowKit

section
variable {P : Program} {ops : Array Oper} {Q : Exit → Act → World → Prop} {md : Region.Mode} {S T : World → Prop} {late : List Nat}
/-- none of the late ones has come up -/
def due (late : List Nat) (listed : Array Bool) : Bool := late.all fun j => !listed.getD j true
/-- 'j' waits for 'i', by whatever way -/
def waitsFor (md : Region.Mode) (ops : Array Oper) : Nat → Nat → Nat → Bool
  | 0, _, _ => false
  | f + 1, j, i => match ops[j]? with
    | none => false
    | some o => o.after.any fun e => Region.binds md e && (e.on == i || waitsFor md ops f e.on i)
def Closed (md : Region.Mode) (ops : Array Oper) (listed : Array Bool) : Prop :=
  ∀ (j : Nat) (o : Oper), ops[j]? = some o → listed.getD j true = true → ∀ e ∈ o.after, Region.binds md e = true → listed.getD e.on false = true
def closedB (md : Region.Mode) (ops : Array Oper) (listed : Array Bool) : Bool :=
  (List.range ops.size).all fun j => match ops[j]? with
    | none => true
    | some o => !listed.getD j true || o.after.all fun e => !Region.binds md e || listed.getD e.on false
theorem closedB_spec {listed : Array Bool} (h : closedB md ops listed = true) : Closed md ops listed := by
  intro j o ho hl e he hb
  have h1 := List.all_eq_true.1 h j (List.mem_range.2 (Array.getElem?_eq_some_iff.1 ho).1)
  rw [ho] at h1
  simp only [hl, Bool.not_true, Bool.false_or] at h1
  have h2 := Array.all_eq_true_iff_forall_mem.1 h1 e he
  simpa [hb] using h2
theorem getD_ft {listed : Array Bool} {i : Nat} (h : listed.getD i false = true) : listed.getD i true = true := by
  rcases Nat.lt_or_ge i listed.size with h' | h'
  · simp [h'] at h ⊢; exact h
  · simp [Array.getElem?_eq_none h'] at h
theorem waitsFor_spec {listed : Array Bool} (hc : Closed md ops listed) {i : Nat} : ∀ (f j : Nat), waitsFor md ops f j i = true → listed.getD j true = true → listed.getD i true = true
  | f + 1, j, h, hl => by
    unfold waitsFor at h
    cases ho : ops[j]? with
    | none => rw [ho] at h; cases h
    | some o =>
      rw [ho] at h
      obtain ⟨e, he, h1⟩ := Array.any_eq_true'.1 h
      simp only [Bool.and_eq_true, Bool.or_eq_true, beq_iff_eq] at h1
      have h2 := getD_ft (hc j o ho hl e he h1.1)
      rcases h1.2 with h3 | h3
      · rw [← h3]; exact h2
      · exact waitsFor_spec hc f _ h3 h2
theorem Closed.step {listed : Array Bool} (hc : Closed md ops listed) {j : Nat} (hj : j ∈ Region.ready md ops listed) : Closed md ops (listed.setIfInBounds j true) := by
  intro k o ho hl e he hb
  by_cases hjk : j = k
  · subst hjk
    obtain ⟨_, oj, hoj, hall⟩ := mem_ready.1 hj
    rw [ho] at hoj
    cases hoj
    exact getD_set_true (hall e he hb)
  · rw [getD_set_ne true hjk] at hl
    exact getD_set_true (hc k o ho hl e he hb)
theorem due_swap {listed : Array Bool} {i j : Nat} (hi : i ∉ late) (h : due late (listed.setIfInBounds j true) = true) : due late ((listed.setIfInBounds i true).setIfInBounds j true) = true := by
  unfold due at *
  rw [List.all_eq_true] at *
  intro k hk
  have := h k hk
  have hik : i ≠ k := fun e => hi (e ▸ hk)
  by_cases hjk : j = k
  · subst hjk
    rw [Array.setIfInBounds_comm _ _ hik, getD_set_ne true hik]
    exact this
  · rw [getD_set_ne true hjk, getD_set_ne true hik]
    rw [getD_set_ne true hjk] at this
    exact this
/-- Whatever order is picked from here on; S holds till a late operation has come up. -/
def wpAnyL (P : Program) (md : Region.Mode) (ops : Array Oper) (Q : Exit → Act → World → Prop) (S : World → Prop) (late : List Nat) : Nat → Array Bool → Act → World → Prop
  | 0, listed, a, w => Region.ready md ops listed = [] ∧ Q .normal a w
  | fuel + 1, listed, a, w =>
    (Region.ready md ops listed = [] → Q .normal a w) ∧
    ∀ i ∈ Region.ready md ops listed, wpOp P ops Q i (fun a' w' => (due late (listed.setIfInBounds i true) = true → S w') ∧ wpAnyL P md ops Q S late fuel (listed.setIfInBounds i true) a' w') a w
theorem wpAny_of_late : ∀ (fuel : Nat) (listed : Array Bool) (a : Act) (w : World), wpAnyL P md ops Q S late fuel listed a w → wpAny P md ops Q fuel listed a w
  | 0, _, _, _, h => h
  | fuel + 1, _, _, _, h => ⟨h.1, fun i hi => wpOp_mono (fun a' w' h' => wpAny_of_late fuel _ a' w' h'.2) (h.2 i hi)⟩
theorem wpAnyL_first {i : Nat} {oi : Oper} {v : Value} (hi : ops[i]? = some oi) (hsel : ∀ (j : Nat) (o : Oper) cs b, ops[j]? = some o → o.op ≠ .select cs b)
    (hQ : ∀ c a w, Q (.panic c) (a.put oi.dst v) w → Q (.panic c) a w) (hil : i ∉ late)
    (hT : ∀ (listed : Array Bool) (w : World), Closed md ops listed → listed.getD i true = false → (due late listed = true → S w) → T w) :
    ∀ (fuel : Nat) (listed : Array Bool) (a : Act) (w : World),
      (∀ j oj, ops[j]? = some oj → j ≠ i → listed.getD j true = false → (∀ e ∈ oj.after, Region.binds md e = true → e.on ≠ i) → oi.apart ops oj = true) →
      Closed md ops listed → i ∈ Region.ready md ops listed → YieldsIf P ops T oi v a → (due late listed = true → S w) →
      wpAnyL P md ops Q S late fuel (listed.setIfInBounds i true) (a.put oi.dst v) w → wpAnyL P md ops Q S late (fuel + 1) listed a w := by
  intro fuel
  have hdue : ∀ (listed : Array Bool), due late (listed.setIfInBounds i true) = true → due late listed = true := by
    intro listed h
    unfold due at *
    rw [List.all_eq_true] at *
    intro k hk
    have := h k hk
    rw [getD_set_ne true (fun (e : i = k) => hil (by rw [e]; exact hk))] at this
    exact this
  induction fuel with
  | zero =>
    intro listed a w _ hcl hr hy hS H
    refine ⟨fun h => (by rw [h] at hr; cases hr), fun j hj => ?_⟩
    by_cases hji : j = i
    · subst hji; exact hy.wpOp hi (hT listed w hcl (mem_ready.1 hr).1 hS) ⟨fun h => hS (hdue _ h), H⟩
    · have := ready_mono hj hji
      rw [H.1] at this
      cases this
  | succ fuel ih =>
    intro listed a w hfree hcl hr hy hS H
    refine ⟨fun h => (by rw [h] at hr; cases hr), fun j hj => ?_⟩
    by_cases hji : j = i
    · subst hji; exact hy.wpOp hi (hT listed w hcl (mem_ready.1 hr).1 hS) ⟨fun h => hS (hdue _ h), H⟩
    · have h1 := H.2 j (ready_mono hj hji)
      obtain ⟨hjun, oj, hoj, hall⟩ := mem_ready.1 hj
      have hnot : ∀ e ∈ oj.after, Region.binds md e = true → e.on ≠ i := fun e he hb heq => by
        have h1 := hall e he hb
        have h0 := (mem_ready.1 hr).1
        rw [heq] at h1
        rcases Nat.lt_or_ge i listed.size with h' | h'
        · simp [h'] at h0 h1; rw [h0] at h1; cases h1
        · simp [Array.getElem?_eq_none h'] at h1
      have h2 := wpOp_putIf hoj (hfree j oj hoj hji hjun hnot) (fun cs b => hsel i oi cs b hi) (fun cs b => hsel j oj cs b hoj) hQ hy h1
      have hfree' : ∀ k ok, ops[k]? = some ok → k ≠ i → (listed.setIfInBounds j true).getD k true = false →
          (∀ e ∈ ok.after, Region.binds md e = true → e.on ≠ i) → oi.apart ops ok = true := fun k ok hk hki hun hno => by
        refine hfree k ok hk hki ?_ hno
        by_cases hjk : j = k
        · subst hjk; exact hjun
        · rw [getD_set_ne true hjk] at hun; exact hun
      refine wpOp_mono (fun a' w' h3 => ?_) h2
      have hS' : due late (listed.setIfInBounds j true) = true → S w' := fun h => h3.2.1 (due_swap hil h)
      refine ⟨hS', ih (listed.setIfInBounds j true) a' w' hfree' (hcl.step hj) (ready_mono hr (Ne.symm hji)) h3.1 hS' ?_⟩
      rw [Array.setIfInBounds_comm _ _ hji]
      exact h3.2.2
/-- number 'i' is taken first: a load that all late operations wait for -/
theorem wpAnyL_take {i : Nat} {oi : Oper} {v : Value} {fuel : Nat} {listed : Array Bool} {a : Act} {w : World} (hi : ops[i]? = some oi)
    (hs : Region.noSelect ops = true) (hf : Region.free md ops listed i = true) (hr : (Region.ready md ops listed).contains i = true)
    (hl : (late.all fun j => !(j == i) && waitsFor md ops ops.size j i) = true) (hc : closedB md ops listed = true)
    (hQ : ∀ c a w, Q (.panic c) (a.put oi.dst v) w → Q (.panic c) a w) (hy : YieldsIf P ops S oi v a) (hS : S w)
    (h : wpAnyL P md ops Q S late fuel (listed.setIfInBounds i true) (a.put oi.dst v) w) : wpAnyL P md ops Q S late (fuel + 1) listed a w := by
  have hl' : ∀ j ∈ late, j ≠ i ∧ waitsFor md ops ops.size j i = true := fun j hj => by
    have := List.all_eq_true.1 hl j hj
    simpa using this
  refine wpAnyL_first hi (Region.noSelect_spec hs) hQ (fun hm => (hl' i hm).1 rfl) (T := S) (fun listed w hcl hn hd => hd ?_) fuel listed a w (Region.free_spec hi hf) (closedB_spec hc) (by simpa using hr) hy (fun _ => hS) h
  unfold due
  rw [List.all_eq_true]
  intro j hj
  cases hjl : listed.getD j true with
  | false => rfl
  | true =>
    have := waitsFor_spec hcl _ _ (hl' j hj).2 hjl
    rw [hn] at this
    cases this
/-- .. or what yields its value in whatever world -/
theorem wpAnyL_pure {i : Nat} {oi : Oper} {v : Value} {fuel : Nat} {listed : Array Bool} {a : Act} {w : World} (hi : ops[i]? = some oi)
    (hs : Region.noSelect ops = true) (hf : Region.free md ops listed i = true) (hr : (Region.ready md ops listed).contains i = true)
    (hl : (late.all fun j => !(j == i)) = true) (hc : closedB md ops listed = true)
    (hQ : ∀ c a w, Q (.panic c) (a.put oi.dst v) w → Q (.panic c) a w) (hy : YieldsIf P ops (fun _ => True) oi v a) (hS : due late listed = true → S w)
    (h : wpAnyL P md ops Q S late fuel (listed.setIfInBounds i true) (a.put oi.dst v) w) : wpAnyL P md ops Q S late (fuel + 1) listed a w := by
  have hl' : ∀ j ∈ late, j ≠ i := fun j hj => by
    have := List.all_eq_true.1 hl j hj
    simpa using this
  exact wpAnyL_first hi (Region.noSelect_spec hs) hQ (fun hm => hl' i hm rfl) (T := fun _ => True) (fun _ _ _ _ _ => trivial) fuel listed a w (Region.free_spec hi hf) (closedB_spec hc) (by simpa using hr) hy hS h
theorem wpAnyL_done {listed : Array Bool} {a : Act} {w : World} (hr : Region.ready md ops listed = []) (h : Q .normal a w) : ∀ fuel, wpAnyL P md ops Q S late fuel listed a w
  | 0 => ⟨hr, h⟩
  | _ + 1 => ⟨fun _ => h, by rw [hr]; simp⟩
def AllReadyL (P : Program) (md : Region.Mode) (ops : Array Oper) (Q : Exit → Act → World → Prop) (S : World → Prop) (late : List Nat) (fuel : Nat) (listed : Array Bool) (a : Act) (w : World) (rs : List Nat) : Prop :=
  ∀ i ∈ rs, wpOp P ops Q i (fun a' w' => (due late (listed.setIfInBounds i true) = true → S w') ∧ wpAnyL P md ops Q S late fuel (listed.setIfInBounds i true) a' w') a w
theorem AllReadyL.nil {fuel : Nat} {listed : Array Bool} {a : Act} {w : World} : AllReadyL P md ops Q S late fuel listed a w [] := fun _ h => by cases h
/-- one of those that come up: behind it S is to be shown anew .. -/
theorem AllReadyL.cons {fuel : Nat} {listed : Array Bool} {a : Act} {w : World} {i : Nat} {o : Oper} {rs : List Nat} (ho : ops[i]? = some o)
    (h : ∀ K' : Act → World → Prop, Shut (∀ a w, S w → (S w → wpAnyL P md ops Q S late fuel (listed.setIfInBounds i true) a w) → K' a w) → if Region.wanted o (yielded ops a.tmps) = true then Oper.wp P o a w K' Q else K' (a.put o.dst undef) w)
    (hs : AllReadyL P md ops Q S late fuel listed a w rs) : AllReadyL P md ops Q S late fuel listed a w (i :: rs) := fun j hj => by
  rcases List.mem_cons.1 hj with rfl | hj
  · exact wpOp_step ho (fun K' hK => h K' (fun a w hS hW => hK a w ⟨fun _ => hS, hW hS⟩))
  · exact hs j hj
/-- .. but not behind a late one -/
theorem AllReadyL.consLate {fuel : Nat} {listed : Array Bool} {a : Act} {w : World} {i : Nat} {o : Oper} {rs : List Nat} (ho : ops[i]? = some o) (hd : due late (listed.setIfInBounds i true) = false)
    (h : ∀ K' : Act → World → Prop, Shut (∀ a w, wpAnyL P md ops Q S late fuel (listed.setIfInBounds i true) a w → K' a w) → if Region.wanted o (yielded ops a.tmps) = true then Oper.wp P o a w K' Q else K' (a.put o.dst undef) w)
    (hs : AllReadyL P md ops Q S late fuel listed a w rs) : AllReadyL P md ops Q S late fuel listed a w (i :: rs) := fun j hj => by
  rcases List.mem_cons.1 hj with rfl | hj
  · exact wpOp_step ho (fun K' hK => h K' (fun a w hW => hK a w ⟨fun h => (by rw [hd] at h; cases h), hW⟩))
  · exact hs j hj
theorem wpAnyL_ready {rs : List Nat} {fuel : Nat} {listed : Array Bool} {a : Act} {w : World} (hr : Region.ready md ops listed = rs) (hne : rs ≠ [])
    (h : AllReadyL P md ops Q S late fuel listed a w rs) : wpAnyL P md ops Q S late (fuel + 1) listed a w :=
  ⟨fun h0 => absurd (hr ▸ h0) hne, hr ▸ h⟩
/-- the beginning -/
theorem region_late {id : Nat} {a : Act} {w : World} (S : World → Prop) (late : List Nat) (hm : P.follows .mixedOrders = true) (hS : S w.drew)
    (h : S w.drew → wpAnyL P .any ops Q S late ops.size (Array.replicate ops.size false) a w.drew) : (Code.region id ops true).wp P Q a w :=
  wp_region_any hm (wpAny_of_late _ _ _ _ (h hS))
theorem round_late {l n : Nat} {id : Nat} {a : Act} {w : World} (S : World → Prop) (late : List Nat) (hm : P.follows .mixedOrders = true) (hd : (ops.toList.all notDefer) = true) (hS : S w.drew)
    (h : S w.drew → wpAnyL P .any ops (NoOut Q) S late ops.size (Array.replicate ops.size false) a w.drew) : (Code.region id ops true).wpIn (Fence.wide.inRound l) n P Q a w :=
  wpIn_region_any hm (any_round hd _ _ _ _ (wpAny_of_late _ _ _ _ (h hS)))
end
end Go.Proofs.YtlckhfjkdahfpaaDoor
