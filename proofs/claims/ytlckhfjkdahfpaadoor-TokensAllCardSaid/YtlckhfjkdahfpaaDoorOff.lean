/- Lists of the call's own that begin at an offset in their block: appended to, cut from the front. -/
import Derived.Test.YtlckhfjkdahfpaaDoorRecW
import Derived.ArgAppend
import Derived.Deep.RegionHeld3
import Derived.Deep.RegionLaw
namespace Go.Proofs.YtlckhfjkdahfpaaDoor
open Go.RowKit

/-- a list of the call's own, at an offset -/
def OwnO (w : World) (B e size : Nat) (v : Value) (n : Nat) (xs : List Value) : Prop :=
  xs.length = n * size ∧ ((v = .slice none 0 0 ∧ n = 0) ∨
    ∃ (g o cap : Nat) (pre post : List Value), v = .slice (some ⟨g, o, none⟩) n cap ∧ B ≤ g ∧ w.heap[g]? = some (.cells (pre ++ xs ++ post).toArray e) ∧ pre.length = o ∧ n ≤ cap ∧ cap ≤ maxLen ∧ cap * size ≤ n * size + post.length)
theorem OwnO.of {w : World} {B e size n : Nat} {v : Value} {xs : List Value} (h : w.ownsRow B e size v n xs) : OwnO w B e size v n xs := by
  refine ⟨h.1, ?_⟩
  rcases h.2 with h2 | ⟨g, cap, cur, rfl, hb, hh, hn, hm, hs, ht⟩
  · exact .inl h2
  · refine .inr ⟨g, 0, cap, [], cur.toList.drop (n * size), rfl, hb, ?_, rfl, hn, hm, ?_⟩
    · rw [hh, ← ht, List.nil_append, List.take_append_drop]
    · rw [List.length_drop, Array.length_toList, hs]
      have : n * size ≤ cap * size := Nat.mul_le_mul_right _ hn
      omega
theorem OwnO.nil (w : World) (B e size : Nat) : OwnO w B e size (.slice none 0 0) 0 [] := ⟨by simp, .inl ⟨rfl, rfl⟩⟩
theorem OwnO.sl {w : World} {B e size n : Nat} {v : Value} {xs : List Value} (h : OwnO w B e size v n xs) : ∃ a c, v = .slice a n c ∧ n ≤ c ∧ (a = none → c = 0) := by
  rcases h.2 with ⟨rfl, rfl⟩ | ⟨g, o, cap, pre, post, rfl, _, _, _, hn, _⟩
  · exact ⟨none, 0, rfl, Nat.le_refl _, fun _ => rfl⟩
  · exact ⟨_, _, rfl, hn, fun h => by cases h⟩
theorem OwnO.fr {S : List Nat} {w w' : World} {B e size n : Nat} {v : Value} {xs : List Value} (h : OwnO w B e size v n xs) (hf : Fr S w w') (hS : ∀ g, v.ownBlock = some g → g ∉ S) : OwnO w' B e size v n xs := by
  refine ⟨h.1, ?_⟩
  rcases h.2 with h2 | ⟨g, o, cap, pre, post, rfl, hb, hh, rest⟩
  · exact .inl h2
  · exact .inr ⟨g, o, cap, pre, post, rfl, hb, hf.obj hh (hS g rfl), rest⟩
theorem OwnO.keep {w w' : World} {B e size n : Nat} {v : Value} {xs : List Value} (h : OwnO w B e size v n xs) (hf : Fr [] w w') : OwnO w' B e size v n xs := h.fr hf (by simp)
theorem OwnO.base {w : World} {B B' e size n : Nat} {v : Value} {xs : List Value} (h : OwnO w B e size v n xs) (hB : B' ≤ B) : OwnO w B' e size v n xs := by
  refine ⟨h.1, ?_⟩
  rcases h.2 with h2 | ⟨g, o, cap, pre, post, rfl, hb, r⟩
  · exact .inl h2
  · exact .inr ⟨g, o, cap, pre, post, rfl, Nat.le_trans hB hb, r⟩
theorem OwnO.lt {w : World} {B e size n : Nat} {v : Value} {xs : List Value} (h : OwnO w B e size v n xs) {g : Nat} (hg : v.ownBlock = some g) : B ≤ g ∧ g < w.heap.size := by
  rcases h.2 with ⟨rfl, _⟩ | ⟨g', o, cap, pre, post, rfl, hb, hh, _⟩
  · simp [Value.ownBlock] at hg
  · simp only [Value.ownBlock, Option.some.injEq] at hg
    subst hg
    exact ⟨hb, (Array.getElem?_eq_some_iff.1 hh).1⟩
theorem OwnO.ty {w : World} {B e size n k T : Nat} {v : Value} {xs : List Value} {cs : Array Value} {fz : Nat × Nat} (h : OwnO w B e size v n xs) (hk : w.heap[k]? = some (.cells cs T fz)) (hT : T ≠ e) : v.ownBlock ≠ some k := by
  rcases h.2 with ⟨rfl, _⟩ | ⟨g', o, cap, pre, post, rfl, hb, hh, _⟩
  · simp [Value.ownBlock]
  · simp only [Value.ownBlock]
    intro e1
    cases e1
    rw [hk] at hh
    simp at hh
    exact hT hh.2.1
theorem OwnO.two {w : World} {B C e e' s s' n n' : Nat} {v v' : Value} {xs xs' : List Value} (h : OwnO w B e s v n xs) (h' : OwnO w C e' s' v' n' xs') (hne : e ≠ e') : ∀ g, v.ownBlock = some g → v'.ownBlock ≠ some g := by
  intro g hg
  rcases h.2 with ⟨rfl, _⟩ | ⟨g', o, cap, pre, post, rfl, hb, hh, _⟩
  · simp [Value.ownBlock] at hg
  · simp only [Value.ownBlock, Option.some.injEq] at hg
    subst hg
    exact h'.ty hh hne
/-- the front is cut off -/
theorem OwnO.cut {w : World} {B e size n c : Nat} {a : Option Addr} {xs : List Value} (h : OwnO w B e size (.slice a n c) n xs) (k : Nat) (hk : k ≤ n) (hk0 : 0 < k) (v' : Value)
    (hv : (c - k = 0 ∧ v' = .slice a (n - k) (c - k)) ∨ (c - k ≠ 0 ∧ ∃ ad, a = some ad ∧ v' = .slice (some (ad.add (k * size))) (n - k) (c - k))) : OwnO w B e size v' (n - k) (xs.drop (k * size)) := by
  have hl := h.1
  have hks : k * size ≤ n * size := Nat.mul_le_mul_right _ hk
  have hsub : (n - k) * size = n * size - k * size := Nat.sub_mul ..
  refine ⟨by rw [List.length_drop, hl, hsub], ?_⟩
  rcases h.2 with ⟨e1, rfl⟩ | ⟨g, o, cap, pre, post, e1, hb, hh, hp, hn, hm, hc⟩
  · omega
  · simp only [Value.slice.injEq] at e1
    obtain ⟨rfl, _, rfl⟩ := e1
    have hcs : (c - k) * size = c * size - k * size := Nat.sub_mul ..
    rcases hv with ⟨h0, rfl⟩ | ⟨h0, ad, ha, rfl⟩
    · have hnk : n - k = 0 := by omega
      refine .inr ⟨g, o, c - k, pre, xs ++ post, rfl, hb, ?_, hp, by omega, by omega, by rw [h0]; simp⟩
      have : xs.drop (k * size) = [] := List.drop_eq_nil_iff.2 (by rw [hl]; exact Nat.mul_le_mul_right _ (by omega))
      rw [this, hh]
      simp
    · cases ha
      refine .inr ⟨g, o + k * size, c - k, pre ++ xs.take (k * size), post, ?_, hb, ?_, ?_, by omega, by omega, ?_⟩
      · rw [Addr.add_mid]
      · rw [hh]
        simp only [List.append_assoc]
        rw [← List.append_assoc (xs.take _), List.take_append_drop]
      · rw [List.length_append, List.length_take, hl, hp]; omega
      · omega
/-- a cell of such a list -/
theorem OwnO.cell {w : World} {B e size n c : Nat} {ad : Addr} {xs : List Value} (h : OwnO w B e size (.slice (some ad) n c) n xs) (j : Nat) (hj : j < xs.length) : w.cell? ⟨ad.block, ad.off + j, none⟩ = xs[j]? ∧ ad = ⟨ad.block, ad.off, none⟩ ∧ w.frozen? ⟨ad.block, ad.off + j, none⟩ = false := by
  rcases h.2 with ⟨e1, _⟩ | ⟨g, o, cap, pre, post, e1, hb, hh, hp, hn, hm, hc⟩
  · cases e1
  · simp only [Value.slice.injEq, Option.some.injEq] at e1
    obtain ⟨rfl, _, rfl⟩ := e1
    refine ⟨?_, rfl, frozen_of_row w g _ _ _ hh⟩
    rw [cell_of_row w g (o + j) _ _ _ hh]
    simp only [List.getElem?_toArray]
    rw [List.append_assoc, List.getElem?_append_right (by omega), List.getElem?_append_left (by omega)]
    congr 1
    omega
theorem OwnO.bytes {w : World} {B n c e : Nat} {a : Option Addr} {l : List UInt8} (h : OwnO w B e 1 (.slice a n c) l.length (l.map B8)) : Bytes w a l := by
  by_cases hl : l = []
  · exact .inl hl
  · have hpos : 0 < l.length := List.length_pos_iff.2 hl
    rcases h.2 with ⟨e1, e2⟩ | ⟨g, o, cap, pre, post, e1, hb, hh, hp, hn, hm, hc⟩
    · omega
    · simp only [Value.slice.injEq] at e1
      obtain ⟨rfl, rfl, rfl⟩ := e1
      refine .inr ⟨g, o, rfl, fun j hj => ?_⟩
      rw [cell_of_row w g (o + j) _ _ _ hh]
      simp only [List.getElem?_toArray]
      rw [List.append_assoc, List.getElem?_append_right (by omega), List.getElem?_append_left (by simp; omega), show o + j - pre.length = j by omega]
      simp [List.getD, hj]
/-- what append leaves -/
structure AppO (w w' : World) (B e size : Nat) (v v' : Value) (n m : Nat) (xs news : List Value) : Prop where
  own : OwnO w' B e size v' (n + m) (xs ++ news)
  fr : Fr v.ownBlock.toList w w'
  blk : v'.ownBlock = v.ownBlock ∨ ∃ g, v'.ownBlock = some g ∧ w.heap.size ≤ g
section
variable {P : Program} (w : World)
theorem run_appO (B : Nat) (t ty e : TypeId) (i : TypeInfo) (z : Value) (size bytes : Nat) (ht : P.underlying t = some (.slice e)) (hi : P.info? e = some i) (hz : i.zero = some z)
    (hsize : i.size = size) (hby : i.bytes = bytes) (hzs : z.cells.size = size) (hsz : 0 < size)
    (v : Value) (n : Nat) (xs : List Value) (hown : OwnO w B e size v n xs)
    (ao : Option Addr) (m c : Nat) (news : List Value) (hl : news.length = m * size) (hnews : ∀ a, ao = some a → ∀ j u, news[j]? = some u → w.cell? (a.add j) = some u) (hnone : ao = none → m = 0 ∧ c = 0) (h1 : ∀ u ∈ news, u.oneCell' = true)
    (h63 : n + m ≤ maxLen) (hbytes : (n + m) * bytes ≤ 140737488355328) (hbase : B ≤ w.heap.size) :
    ∃ v' w', (Builtin.append_ #[t, t] ty #[v, .slice ao m c]).run P w = .ok v' w' ∧ AppO w w' B e size v v' n m xs news := by
  rcases hown.2 with ⟨rfl, rfl⟩ | ⟨g, o, cap, pre, post, rfl, hb, hh, hp, hn, hm, hc⟩
  · have hx : xs = [] := List.eq_nil_of_length_eq_zero (by simpa using hown.1)
    subst hx
    obtain ⟨v', w', hr, ha⟩ := run_appS (P := P) w B t ty e i z size bytes ht hi hz hsize hby hzs hsz (.slice none 0 0) 0 [] (World.ownsRow_nil _ _ _ _) ao m c news hl hnews hnone h1 h63 hbytes hbase
    exact ⟨v', w', hr, .of ha.own, Fr.of_grown ha.grown _ fun k hk _ => by simp [hk], ha.blk⟩
  · have hms : (n + m) * size = n * size + m * size := Nat.add_mul ..
    cases ao with
    | none =>
      obtain ⟨rfl, rfl⟩ := hnone rfl
      have hn0 : news = [] := List.eq_nil_of_length_eq_zero (by simpa using hl)
      subst hn0
      refine ⟨.slice (some ⟨g, o, none⟩) n cap, w, ?_, by simpa using hown, Fr.refl _ _, .inl rfl⟩
      simp [Builtin.append_, run_underlying ht, sizeOf, typeInfo, hi, Builtin.lenOf, hn, Builtin.firstCells, loadCells, loadCellsFrom, storeCells]
    | some ad =>
      have hnews := hnews ad rfl
      by_cases hroom : n + m ≤ cap
      · subst hsize
        have hcap : (n + m) * i.size ≤ cap * i.size := Nat.mul_le_mul_right _ hroom
        have hfit : news.length ≤ post.length := by rw [hl]; omega
        have hx := hown.1
        have hr := run_append_room_cells (P := P) w t ty e i ht hi g o n cap ad m c news hl hnews h1 hroom (fun j hj => by
            rw [cell_of_row w g (o + n * i.size + j) _ _ _ hh]
            simp only [List.getElem?_toArray]
            rw [List.getElem?_append_right (by rw [List.length_append]; omega), List.getElem?_eq_getElem (by rw [List.length_append]; omega)]
            rfl) (fun j _ => frozen_of_row w g _ _ _ hh)
        refine ⟨_, _, hr, ⟨?_, .inr ⟨g, o, cap, pre, post.drop news.length, rfl, hb, ?_, hp, hroom, hm, ?_⟩⟩, Fr.setCells (S := [g]) (by simp) _ _ _ (Fr.refl _ _), .inl rfl⟩
        · rw [List.length_append, hl, hx, hms]
        · have := heap_setCells g e news (o + n * i.size) (pre ++ xs) (post.take news.length) (post.drop news.length) w (by rw [List.append_assoc (pre ++ xs), List.take_append_drop]; exact hh) (by rw [List.length_append]; omega) (by rw [List.length_take]; omega)
          rw [this]
          simp
        · rw [List.length_drop, hl]; omega
      · obtain ⟨v', w', hr, h2, h3⟩ := run_append_arg_grows (P := P) w t ty e i z size bytes ht hi hz hsize hby hzs hsz ⟨g, o, none⟩ n cap xs hown.1 (fun j u hj => by
            have hjl : j < xs.length := (List.getElem?_eq_some_iff.1 hj).1
            rw [Addr.add_lit, cell_of_row w g (o + j) _ _ _ hh]
            simp only [List.getElem?_toArray]
            rw [List.append_assoc, List.getElem?_append_right (by omega), List.getElem?_append_left (by omega), show o + j - pre.length = j by omega]
            exact hj) ad m c news hl hnews (by omega) h63 hbytes
        refine ⟨v', w', hr, (OwnO.of h2).base hbase, Fr.of_grown h3 _ (fun k hk => by cases hk), ?_⟩
        cases hv : v'.ownBlock with
        | none => rcases h2.2 with ⟨_, h0⟩ | ⟨g', _, _, rfl, _⟩
                  · omega
                  · simp [Value.ownBlock] at hv
        | some g' => exact .inr ⟨g', rfl, (h2.lt _ hv).1⟩
theorem wpList_appO {ops : Array Oper} {rest : List Oper} {o : Oper} {a : Act} {Q : Exit → Act → World → Prop} (hgd : o.guard = none) (s x : Operand) (t : TypeId)
    (ho : o.op = .call { callee := .builtin .append, args := #[s, x], argTypes := #[t, t] })
    (base : Nat) (e : TypeId) (z : Value) (size bytes : Nat) (ht : P.underlying t = some (.slice e)) (hinfo : (P.info? e).map (fun i => (i.zero, i.size, i.bytes)) = some (some z, size, bytes))
    (hzs : z.cells.size = size) (hsz : 0 < size)
    (v : Value) (n : Nat) (xs : List Value) (hs : a.eval s = v) (hown : OwnO w base e size v n xs)
    (ao : Option Addr) (m c : Nat) (news : List Value) (hx : a.eval x = .slice ao m c) (hl : news.length = m * size) (hnews : ∀ a, ao = some a → ∀ j u, news[j]? = some u → w.cell? (a.add j) = some u) (hnone : ao = none → m = 0 ∧ c = 0) (h1 : ∀ u ∈ news, u.oneCell' = true)
    (h63 : n + m ≤ maxLen) (hbytes : (n + m) * bytes ≤ 140737488355328) (hbase : base ≤ w.heap.size)
    (h : ∀ v' w', AppO w w' base e size v v' n m xs news → wpList P ops Q rest (a.put o.dst v') w') : wpList P ops Q (o :: rest) a w := by
  obtain ⟨i, hi, hz, hsz2, hby⟩ := info_parts hinfo
  refine wpList_plain hgd fun K hK => ?_
  obtain ⟨v', w', hr, happ⟩ := run_appO (P := P) w base t o.type e i z size bytes ht hi hz hsz2 hby hzs hsz v n xs hown ao m c news hl hnews hnone h1 h63 hbytes hbase
  unfold Oper.wp execOp
  simp only [ho, resolve, invoke, builtin, Sem.run_bind, Sem.run_pure, Result.andThen_ok, List.map_toArray, List.map_cons, List.map_nil, hs, hx, hr]
  exact hK _ _ (h v' w' happ)
theorem step_appO {ops : Array Oper} {o : Oper} {a : Act} {K : Act → World → Prop} {Q : Exit → Act → World → Prop} {E : Prop}
    (hg : o.guard = none) (s x : Operand) (t : TypeId) (ho : o.op = Op.call { callee := Callee.builtin Builtin.append, args := #[s, x], argTypes := #[t, t] })
    (base : Nat) (e : TypeId) (z : Value) (size bytes : Nat) (ht : P.underlying t = some (.slice e)) (hinfo : (P.info? e).map (fun i => (i.zero, i.size, i.bytes)) = some (some z, size, bytes))
    (hzs : z.cells.size = size) (hsz : 0 < size)
    (v : Value) (n : Nat) (xs : List Value) (hs : a.eval s = v) (hown : OwnO w base e size v n xs)
    (ao : Option Addr) (m c : Nat) (news : List Value) (hx : a.eval x = .slice ao m c) (hl : news.length = m * size) (hnews : ∀ a, ao = some a → ∀ j u, news[j]? = some u → w.cell? (a.add j) = some u) (hnone : ao = none → m = 0 ∧ c = 0) (h1 : ∀ u ∈ news, u.oneCell' = true)
    (h63 : n + m ≤ maxLen) (hbytes : (n + m) * bytes ≤ 140737488355328) (hbase : base ≤ w.heap.size)
    (hK : ∀ v' w', AppO w w' base e size v v' n m xs news → K (a.put o.dst v') w') :
    if Region.wanted o (yielded ops a.tmps) = true then Oper.wp P o a w K Q else E := by
  have hw : Region.wanted o (yielded ops a.tmps) = true := by simp [Region.wanted, hg]
  rw [if_pos hw]
  obtain ⟨i, hi, hz, hsz2, hby⟩ := info_parts hinfo
  obtain ⟨v', w', hr, happ⟩ := run_appO (P := P) w base t o.type e i z size bytes ht hi hz hsz2 hby hzs hsz v n xs hown ao m c news hl hnews hnone h1 h63 hbytes hbase
  unfold Oper.wp
  simp [execOp, ho, resolve, invoke, builtin, hs, hx, hr, Result.andThen]
  exact hK v' w' happ
end
end Go.Proofs.YtlckhfjkdahfpaaDoor
