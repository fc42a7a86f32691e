/- From a law's walk ('it returns true and leaves what was there') to its statement; how the arguments are opened. No condition, no program. -/
import Derived.Test.YtlckhfjkdahfpaaDoorMem
import Derived.ProofKit
import Derived.OpenShut
import Derived.Deep.DeepHandedRow
import Derived.Lib.LaidTab
import Derived.Deep.Slices
namespace Go.Proofs.YtlckhfjkdahfpaaDoor
open Go.ChangeShapes Go.WideShapes Go.ChangeAt Go.RowKit Go.Deep

section
variable {H : Type} {enc : TypeId × Value → H} {P : Program}

/-- below the heap's old size nothing has turned: so all arguments read as they did -/
theorem trodAll_keep (hl : laidOutB P = true) {W W' : World} (hb : Below W.heap.size W W') : ∀ {ts : List TypeId} {vs : List Value} {ds : List (DataW H)} {ps : List MemPlace},
    (ts.all fun t => P.readableRec t && decide (t < P.types.size)) = true → DataW.TrodAll enc P W 0 (fun _ => true) true ts vs ds ps → (∀ x ∈ ps, x.block < W.heap.size) →
    DataW.TrodAll enc P W' 0 (fun b => decide (b < W.heap.size)) true ts vs ds ps
  | [], vs, ds, ps, _, h, _ => by
    obtain ⟨rfl, rfl, rfl⟩ := trodAll_nil h
    rfl
  | t :: ts, vs, ds, ps, hr, h, hlt => by
    obtain ⟨v, vs', d, ds', p, q, rfl, rfl, rfl, h0, h1⟩ := trodAll_cons h
    simp only [List.all_cons, Bool.and_eq_true, decide_eq_true_eq] at hr
    exact ⟨p, q, Below.trod hl hr.1.1 hr.1.2 h0 hb fun x hx => hlt x (List.mem_append.2 (.inl hx)), trodAll_keep hl hb (by simpa using hr.2) h1 fun x hx => hlt x (List.mem_append.2 (.inr hx)), rfl⟩

theorem law_post {f : Func} {s : ChangeSpec} {W W' : World} {args : Array Value} {ds gs : List (DataW H)} {before : List MemPlace} {tb : TypeId}
    (hW : DataW.Whole enc P f.params.toList s.vars false W args.toList ds gs before) (hvars : s.vars = []) (hs : s.fn H (ds ++ gs) = { results := [.lit (.bool true)], args := ds ++ gs })
    (hl : laidOutB P = true) (hr : (f.params.toList.all fun t => P.readableRec t && decide (t < P.types.size)) = true) (hres : f.resultTypes = #[tb]) (htb : P.underlying tb = some .bool)
    (hb : Fr [] W W') : s.post enc P f false true false false W args (.bool true) W' := by
  have hW0 := hW
  obtain ⟨p, q, hA, hV, rfl, hfz, hnd⟩ := hW
  rw [hvars] at hV
  obtain ⟨rfl, rfl⟩ := trodVars_none hV
  rw [List.append_nil] at hs
  have hlt : ∀ x ∈ p, x.block < W.heap.size := fun x hx => hW0.lt x (by simpa using hx)
  refine ⟨ds, [], p ++ [], [], p, [], hW0, ?_, ?_, ?_, hb.below.frame _, fun h => by cases h⟩
  · rw [List.append_nil, hs, hres]
    exact trodAll_mk1 (shut_bool htb true)
  · rw [List.append_nil, hs]
    exact trodAll_keep hl hb.below hr hA hlt
  · rw [List.append_nil, hs, hvars]
    rfl

theorem bd_u32 {n : Int} (h : (Lit.int .u32 n).wf = true) : 0 ≤ n ∧ n ≤ 4294967295 := by
  simp only [Lit.wf, Bool.and_eq_true, decide_eq_true_eq] at h
  exact h
theorem bd_u8 {n : Int} (h : (Lit.int .u8 n).wf = true) : 0 ≤ n ∧ n ≤ 255 := by
  simp only [Lit.wf, Bool.and_eq_true, decide_eq_true_eq] at h
  exact h
theorem bd_i64 {n : Int} (h : (Lit.int .i64 n).wf = true) : -9223372036854775808 ≤ n ∧ n ≤ 9223372036854775807 := by
  simp only [Lit.wf, Bool.and_eq_true, decide_eq_true_eq] at h
  exact h
/-- each list that is met takes at most so many bytes -/
def Wt {H : Type} (P : Program) (t : TypeId) (d : DataW H) : Prop := ∀ n, n ∈ d.weights P t → n ≤ reachBytes
theorem wt_arg {ts : List TypeId} {ds : List (DataW H)} (h : (DataW.weightsEach P ts ds).all (· ≤ reachBytes) = true) (j : Nat) {t : TypeId} {d : DataW H} (ht : ts[j]? = some t) (hd : ds[j]? = some d) : Wt P t d := by
  intro n hn
  have := List.all_eq_true.1 h n (DataW.weights_mem_each ht hd n hn)
  simpa using this
theorem weightsAll_mem {e : TypeId} : ∀ {l : List (DataW H)} {d : DataW H}, d ∈ l → ∀ n, n ∈ d.weights P e → n ∈ DataW.weightsAll P e l
  | x :: l, d, h, n, hn => by
    unfold DataW.weightsAll
    rcases List.mem_cons.1 h with rfl | h
    · exact List.mem_append.2 (.inl hn)
    · exact List.mem_append.2 (.inr (weightsAll_mem h n hn))
  | [], _, h, _, _ => by cases h
theorem Wt.elem {t e : TypeId} {elems spare : List (DataW H)} (h : Wt P t (.slice elems spare)) (hu : P.underlying t = some (.slice e)) {d : DataW H} (hd : d ∈ elems) : Wt P e d := by
  intro n hn
  apply h
  unfold DataW.weights
  rw [hu]
  exact List.mem_cons.2 (.inr (List.mem_append.2 (.inl (weightsAll_mem hd n hn))))
theorem Wt.len {t e : TypeId} {elems spare : List (DataW H)} (h : Wt P t (.slice elems spare)) (hu : P.underlying t = some (.slice e)) : (elems.length + spare.length) * P.bytesOf e ≤ reachBytes := by
  apply h
  unfold DataW.weights
  rw [hu]
  exact List.mem_cons.2 (.inl rfl)
theorem spot_none {W : World} {a : Addr} {v : Value} (h : W.cell? a = some v) : a.spot = none := by
  unfold World.cell? at h
  split at h
  · split at h
    · cases h
    · rename_i h1
      simpa using h1
  · cases h
theorem addr_eq {a : Addr} (h : a.spot = none) : ∃ b off, a = ⟨b, off, none⟩ := by
  obtain ⟨b, off, sp⟩ := a
  simp only at h
  subst h
  exact ⟨b, off, rfl⟩
/-- how many elements a list has -/
def dlen {H : Type} : DataW H → Nat
  | .slice elems _ => elems.length
  | _ => 0
/-- a list of bytes, read -/
theorem bytes_read {W : World} {t e : TypeId} {v : Value} {d : DataW H} {p : List MemPlace} {fuel : Nat} (ht : P.underlying t = some (.slice e)) (he : P.underlying e = some (.int .u8)) (hc : P.cellsOf e = 1) (hby : P.bytesOf e = 1)
    (hf : DataW.trod enc P W 0 (fun _ => true) true fuel t [v] = some (d, p)) (hw : Wt P t d) :
    ∃ a cap l, v = .slice a (List.length l) cap ∧ List.length l ≤ 140737488351232 ∧ (a = none → cap = 0) ∧ Bytes W a l ∧ List.length l ≤ dlen d ∧ List.length l ≤ cap := by
  rcases open_ints ht he hc hf with ⟨hcs, _⟩ | ⟨a, len', cap', zs, hcs, _, hl, hm, hz, hx, hcell, hwz⟩
  · simp only [List.cons.injEq, and_true] at hcs
    subst hcs
    exact ⟨none, 0, [], rfl, by simp, fun _ => rfl, Or.inl rfl, by simp, by simp⟩
  · simp only [List.cons.injEq, and_true] at hcs
    subst hcs
    simp only [Prod.mk.injEq] at hx
    rw [hx.1] at hw
    have hs := hw.len ht
    rw [hby] at hs
    simp only [lits, List.length_map, List.length_take, List.length_drop] at hs
    have hzl : zs.length = cap' := by simpa using hz
    have hL : ((zs.take len').map fun z => UInt8.ofNat z.toNat).length = len' := by simp; omega
    refine ⟨some a, cap', (zs.take len').map fun z => UInt8.ofNat z.toNat, by rw [hL], by unfold reachBytes at hs; omega, fun h => (by cases h), ?_, by rw [hL, hx.1]; simp [dlen, lits]; omega, by rw [hL]; exact hl⟩
    rcases Nat.eq_zero_or_pos len' with h0 | hpos
    · subst h0; exact Or.inl (by simp)
    · obtain ⟨b, off, rfl⟩ := addr_eq (a := a) (by
        have := spot_none (hcell 0 (by omega))
        have e : (a.add 0).spot = a.spot := by unfold Addr.add; simp
        rwa [e] at this)
      refine Or.inr ⟨b, off, rfl, fun j hj => ?_⟩
      have hjl : j < len' := by rwa [hL] at hj
      have h1 := hcell j (by omega)
      rw [Addr.add_lit] at h1
      rw [h1]
      have hwf := hwz (zs.getD j 0) (by rw [List.getD_eq_getElem?_getD, List.getElem?_eq_getElem (by omega)]; exact List.getElem_mem _)
      simp only [Lit.wf, Bool.and_eq_true, decide_eq_true_eq] at hwf
      have e1 : IntKind.u8.min = 0 := rfl
      have e2 : IntKind.u8.max = 255 := rfl
      rw [e1, e2] at hwf
      have e3 : ((zs.take len').map fun z => UInt8.ofNat z.toNat).getD j 0 = UInt8.ofNat (zs.getD j 0).toNat := by
        simp [List.getD_eq_getElem?_getD, List.getElem?_map, hjl, List.getElem?_eq_getElem (show j < zs.length by omega)]
      rw [e3]
      show some (Value.int .u8 _) = some (Value.int .u8 _)
      rw [I8_of_nat _ (by omega)]
      congr 2
      omega
/-- an argument of bytes -/
theorem bytes_arg {W : World} {base : Nat} {t e : TypeId} {v : Value} {d : DataW H} {p : List MemPlace} (ht : P.underlying t = some (.slice e)) (he : P.underlying e = some (.int .u8)) (hc : P.cellsOf e = 1) (hby : P.bytesOf e = 1)
    (hv : Value.okWide P W .any base t v) (h : DataW.Trod enc P W 0 (fun _ => true) true t v d p) (hw : Wt P t d) :
    ∃ a cap l, v = .slice a (List.length l) cap ∧ List.length l ≤ 140737488351232 ∧ (a = none → cap = 0) ∧ Bytes W a l ∧ List.length l ≤ dlen d ∧ List.length l ≤ cap := by
  obtain ⟨a0, len, cap, rfl⟩ := okWide_slice ht hv
  obtain ⟨fuel, hf⟩ := h
  exact bytes_read ht he hc hby hf hw
/-- lists of bytes in a list -/
structure Pieces (w : World) (a : Option Addr) (n : Nat) (A : Nat → Option Addr) (C : Nat → Nat) (L : Nat → List UInt8) : Prop where
  cell : ∀ k, k < n → ∃ b off, a = some ⟨b, off, none⟩ ∧ w.cell? ⟨b, off + k, none⟩ = some (.slice (A k) (L k).length (C k))
  len : ∀ k, k < n → (L k).length ≤ 140737488351232
  none : ∀ k, k < n → A k = none → C k = 0
  bytes : ∀ k, k < n → Bytes w (A k) (L k)
theorem pieces_arg {W : World} {base : Nat} {t2 t e : TypeId} {v : Value} {d : DataW H} {p : List MemPlace} (ht2 : P.underlying t2 = some (.slice t)) (hc2 : P.cellsOf t = 1) (hby2 : P.bytesOf t = 24) (ht : P.underlying t = some (.slice e)) (he : P.underlying e = some (.int .u8)) (hc : P.cellsOf e = 1) (hby : P.bytesOf e = 1)
    (hv : Value.okWide P W .any base t2 v) (h : DataW.Trod enc P W 0 (fun _ => true) true t2 v d p) (hw : Wt P t2 d) :
    ∃ a n cap A C L, v = .slice a n cap ∧ n ≤ 5864062014634 ∧ Pieces W a n A C L := by
  obtain ⟨a0, len, cap, rfl⟩ := okWide_slice ht2 hv
  obtain ⟨fuel, hf⟩ := h
  rcases open_slice1 ht2 hc2 hf with ⟨hcs, _⟩ | ⟨a, len', cap', m, n, V, D, Pl, hcs, _, hl, hm, hmm, hx, hel⟩
  · simp [Value.cells] at hcs
    obtain ⟨rfl, rfl, rfl⟩ := hcs
    exact ⟨none, 0, 0, fun _ => none, fun _ => 0, fun _ => [], rfl, by omega, ⟨fun _ h => absurd h (by omega), fun _ h => absurd h (by omega), fun _ h => absurd h (by omega), fun _ h => absurd h (by omega)⟩⟩
  · simp [Value.cells] at hcs
    obtain ⟨rfl, rfl, rfl⟩ := hcs
    simp only [Prod.mk.injEq] at hx
    rw [hx.1] at hw
    have hs := hw.len ht2
    rw [hby2] at hs
    simp only [List.length_map, List.length_range] at hs
    have hmc : m = cap := by simpa using hmm
    have hread : ∀ k, k < len → ∃ q : Option Addr × Nat × List UInt8, V k = .slice q.1 q.2.2.length q.2.1 ∧ q.2.2.length ≤ 140737488351232 ∧ (q.1 = none → q.2.1 = 0) ∧ Bytes W q.1 q.2.2 := by
      intro k hk
      have hwk : Wt P t (D k) := hw.elem ht2 (List.mem_map.2 ⟨k, List.mem_range.2 hk, rfl⟩)
      obtain ⟨a1, c1, l1, h1, h2, h3, h4, _⟩ := bytes_read ht he hc hby (hel k (by omega)).2 hwk
      exact ⟨(a1, c1, l1), h1, h2, h3, h4⟩
    obtain ⟨Q, hQ⟩ := Deep.choose_lt (α := Option Addr × Nat × List UInt8) hread
    refine ⟨some a, len, cap, fun k => (Q k).1, fun k => (Q k).2.1, fun k => (Q k).2.2, rfl, by unfold reachBytes at hs; omega, ⟨fun k hk => ?_, fun k hk => (hQ k hk).2.1, fun k hk => (hQ k hk).2.2.1, fun k hk => (hQ k hk).2.2.2⟩⟩
    have h1 := (hel k (by omega)).1
    obtain ⟨b, off, rfl⟩ := addr_eq (a := a) (by
      have := spot_none h1
      unfold Addr.add at this
      split at this
      · exact this
      · have h0 := spot_none (hel 0 (by omega)).1
        have e : (a.add 0).spot = a.spot := by unfold Addr.add; simp
        rwa [e] at h0)
    refine ⟨b, off, rfl, ?_⟩
    rw [Addr.add_lit] at h1
    rw [h1, (hQ k hk).1]
end
end Go.Proofs.YtlckhfjkdahfpaaDoor
