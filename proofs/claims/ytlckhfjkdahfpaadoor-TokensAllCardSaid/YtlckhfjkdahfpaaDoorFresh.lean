/- append onto a slice of the call's own, whatever the source and the elements' size: what it gives, and that the old value is still owned. No condition, no program. -/
import Derived.Test.YtlckhfjkdahfpaaDoorMem
import Derived.Test.YtlckhfjkdahfpaaDoorProg
namespace Go.Proofs.YtlckhfjkdahfpaaDoor
open Go.RowKit

/-- what append leaves -/
structure App (w w' : World) (base e size : Nat) (v v' : Value) (n m : Nat) (xs news : List Value) : Prop where
  own : w'.ownsRow base e size v' (n + m) (xs ++ news)
  old : w'.ownsRow base e size v n xs
  grown : w.grownBy w' v.ownBlock
  blk : v'.ownBlock = v.ownBlock ∨ ∃ g, v'.ownBlock = some g ∧ w.heap.size ≤ g
  nil : v' = .slice none 0 0 ↔ v = .slice none 0 0 ∧ m = 0

section
variable {P : Program} (w : World)
theorem run_appS (base : Nat) (t ty e : TypeId) (i : TypeInfo) (z : Value) (size bytes : Nat) (ht : P.underlying t = some (.slice e)) (hi : P.info? e = some i) (hz : i.zero = some z)
    (hsize : i.size = size) (hby : i.bytes = bytes) (hzs : z.cells.size = size) (hsz : 0 < size)
    (v : Value) (n : Nat) (xs : List Value) (hown : w.ownsRow base e size v n xs)
    (ao : Option Addr) (m c : Nat) (news : List Value) (hl : news.length = m * size) (hnews : ∀ a, ao = some a → ∀ j u, news[j]? = some u → w.cell? (a.add j) = some u) (hnone : ao = none → m = 0 ∧ c = 0) (h1 : ∀ u ∈ news, u.oneCell' = true)
    (h63 : n + m ≤ maxLen) (hbytes : (n + m) * bytes ≤ 140737488355328) (hbase : base ≤ w.heap.size) :
    ∃ v' w', (Builtin.append_ #[t, t] ty #[v, .slice ao m c]).run P w = .ok v' w' ∧ App w w' base e size v v' n m xs news := by
  subst hsize
  subst hby
  have hsmall : n + m ≤ 9223372036854775807 := by simp only [maxLen] at h63; omega
  have hlen : (xs ++ news).length = (n + m) * i.size := by rw [List.length_append, hown.1, hl, Nat.add_mul]
  cases ao with
  | none =>
    obtain ⟨rfl, rfl⟩ := hnone rfl
    have hn : news = [] := List.eq_nil_of_length_eq_zero (by simpa using hl)
    subst hn
    refine ⟨v, w, ?_, ⟨by simpa using hown, hown, World.grownBy.refl _ _, .inl rfl, by simp⟩⟩
    exact run_append_owned_none (P := P) w base t ty e i i.size ht hi v n xs hown
  | some a =>
    have hnews := hnews a rfl
    have grown : ∀ (old : Nat), old < n + m → ∀ (row : Option Nat),
        (w.drew.alloc (.cells (xs.toArray ++ news.toArray ++ Builtin.zeroCells z.cells (grownCap w (n + m) old e - (n + m))) e)).ownsRow base e i.size
          (.slice (some ⟨w.heap.size, 0, none⟩) (n + m) (grownCap w (n + m) old e)) (n + m) (xs ++ news) ∧
        w.grownBy (w.drew.alloc (.cells (xs.toArray ++ news.toArray ++ Builtin.zeroCells z.cells (grownCap w (n + m) old e - (n + m))) e)) row := by
      intro old ho row
      have hge := grownCap_ge w (n + m) old e
      have hcm : grownCap w (n + m) old e ≤ maxLen := grownCap_le_maxLen w (n + m) old e h63
      refine ⟨⟨hlen, .inr ⟨w.heap.size, _, _, rfl, hbase, heap_alloc_new w.drew _, hge, hcm, ?_, ?_⟩⟩, ⟨rfl, rfl, rfl, by simp, fun k hk _ => Below.heap_alloc w.drew _ k hk⟩⟩
      · simp only [Array.size_append, List.size_toArray, size_zeroCells, hzs, hown.1, hl, ← Nat.add_mul]
        congr 1
        omega
      · simp only [Array.toList_append, List.append_assoc]
        rw [← List.append_assoc, ← hlen]
        exact List.take_left
    rcases hown.2 with ⟨rfl, rfl⟩ | ⟨g, cap, cur, rfl, hbg, hg, hnc, hcm, hcs, htake⟩
    · have hx : xs = [] := List.eq_nil_of_length_eq_zero (by simpa using hown.1)
      subst hx
      by_cases hm : m = 0
      · subst hm
        have hn : news = [] := List.eq_nil_of_length_eq_zero (by simpa using hl)
        subst hn
        refine ⟨.slice none 0 0, w, ?_, ⟨World.ownsRow_nil w base e i.size, hown, World.grownBy.refl _ _, .inl rfl, by simp⟩⟩
        simp [Builtin.append_, run_underlying ht, sizeOf, typeInfo, hi, Builtin.lenOf, Builtin.firstCells, loadCells, loadCellsFrom]
      · have hr := run_append_nil (P := P) w t ty e i z ht hi hz a m c news hl hnews (by omega) (by omega) (by have hb := hbytes; simp only [Nat.zero_add] at hb; omega)
        have hgr := grown 0 (by omega) (Value.ownBlock (.slice none 0 0))
        simp only [Nat.zero_add, List.nil_append, Array.empty_append] at hgr
        refine ⟨_, _, hr, ⟨by simpa using hgr.1, World.ownsRow_nil _ base e i.size, hgr.2, .inr ⟨_, rfl, Nat.le_refl _⟩, by simp [hm]⟩⟩
    · by_cases hroom : n + m ≤ cap
      · have hfit : n * i.size + news.length ≤ cur.size := by rw [hl, hcs, ← Nat.add_mul]; exact Nat.mul_le_mul_right _ hroom
        have hr := run_append_room (P := P) w t ty e i ht hi g n cap cur hg a m c news hl hnews h1 hroom hfit
        have hsz2 : (cur.toList.take (n * i.size) ++ news ++ cur.toList.drop (n * i.size + news.length)).toArray.size = cap * i.size := by
          simp only [List.size_toArray, List.length_append, List.length_take, List.length_drop, Array.length_toList]
          omega
        refine ⟨_, _, hr, ⟨⟨hlen, .inr ⟨g, cap, _, rfl, hbg, setRow_heap w g cur _ e _ hg, hroom, hcm, hsz2, ?_⟩⟩,
          ⟨hown.1, .inr ⟨g, cap, _, rfl, hbg, setRow_heap w g cur _ e _ hg, hnc, hcm, hsz2, ?_⟩⟩,
          ⟨rfl, rfl, rfl, by simp, fun k _ hk => setRow_other w g k _ (fun e => hk (by simp [Value.ownBlock, e]))⟩, .inl rfl, by simp⟩⟩
        · rw [htake, ← hlen]
          exact List.take_left
        · rw [htake]
          have : n * i.size = xs.length := hown.1.symm
          rw [this, List.append_assoc]
          exact List.take_left
      · have holds : ∀ j u, xs[j]? = some u → w.cell? ((⟨g, 0, none⟩ : Addr).add j) = some u := hown.cells (g := g) rfl
        have hr := run_append_grow (P := P) w t ty e i z ht hi hz ⟨g, 0, none⟩ n cap xs hown.1 holds a m c news hl hnews (by omega) (by omega) (growslice_fits (by omega) hbytes)
        have hgr := grown cap (by omega) (Value.ownBlock (.slice (some ⟨g, 0, none⟩) n cap))
        have hk := (grown cap (by omega) none).2
        exact ⟨_, _, hr, ⟨hgr.1, hown.kept hk (.inr (by simp [Value.ownBlock])), hgr.2, .inr ⟨_, rfl, Nat.le_refl _⟩, by simp⟩⟩

theorem wpList_appS {ops : Array Oper} {rest : List Oper} {o : Oper} {a : Act} {Q : Exit → Act → World → Prop} (hgd : o.guard = none) (s x : Operand) (t : TypeId)
    (ho : o.op = .call { callee := .builtin .append, args := #[s, x], argTypes := #[t, t] })
    (base : Nat) (e : TypeId) (z : Value) (size bytes : Nat) (ht : P.underlying t = some (.slice e)) (hinfo : (P.info? e).map (fun i => (i.zero, i.size, i.bytes)) = some (some z, size, bytes))
    (hzs : z.cells.size = size) (hsz : 0 < size)
    (v : Value) (n : Nat) (xs : List Value) (hs : a.eval s = v) (hown : w.ownsRow base e size v n xs)
    (ao : Option Addr) (m c : Nat) (news : List Value) (hx : a.eval x = .slice ao m c) (hl : news.length = m * size) (hnews : ∀ a, ao = some a → ∀ j u, news[j]? = some u → w.cell? (a.add j) = some u) (hnone : ao = none → m = 0 ∧ c = 0) (h1 : ∀ u ∈ news, u.oneCell' = true)
    (h63 : n + m ≤ maxLen) (hbytes : (n + m) * bytes ≤ 140737488355328) (hbase : base ≤ w.heap.size)
    (h : ∀ v' w', App w w' base e size v v' n m xs news → wpList P ops Q rest (a.put o.dst v') w') : wpList P ops Q (o :: rest) a w := by
  obtain ⟨i, hi, hz, hsz2, hby⟩ := info_parts hinfo
  refine wpList_plain hgd fun K hK => ?_
  obtain ⟨v', w', hr, happ⟩ := run_appS (P := P) w base t o.type e i z size bytes ht hi hz hsz2 hby hzs hsz v n xs hown ao m c news hl hnews hnone h1 h63 hbytes hbase
  unfold Oper.wp execOp
  simp only [ho, resolve, invoke, builtin, Sem.run_bind, Sem.run_pure, Result.andThen_ok, List.map_toArray, List.map_cons, List.map_nil, hs, hx, hr]
  exact hK _ _ (h v' w' happ)
end

/-- bytes: the same, for lists of bytes -/
structure AppB (w w' : World) (base e : Nat) (v v' : Value) (xs l : List UInt8) : Prop where
  own : w'.ownsRow base e 1 v' (xs ++ l).length ((xs ++ l).map B8)
  old : w'.ownsRow base e 1 v xs.length (xs.map B8)
  grown : w.grownBy w' v.ownBlock
  blk : v'.ownBlock = v.ownBlock ∨ ∃ g, v'.ownBlock = some g ∧ w.heap.size ≤ g
  nil : v' = .slice none 0 0 ↔ v = .slice none 0 0 ∧ l.length = 0
theorem wpList_apB {P : Program} (w : World) {ops : Array Oper} {rest : List Oper} {o : Oper} {a : Act} {Q : Exit → Act → World → Prop} (hgd : o.guard = none) (s x : Operand) (t : TypeId)
    (ho : o.op = .call { callee := .builtin .append, args := #[s, x], argTypes := #[t, t] })
    (base : Nat) (e : TypeId) (ht : P.underlying t = some (.slice e)) (hinfo : (P.info? e).map (fun i => (i.zero, i.size, i.bytes)) = some (some (.int .u8 0), 1, 1))
    (v : Value) (xs : List UInt8) (hs : a.eval s = v) (hown : w.ownsRow base e 1 v xs.length (xs.map B8))
    (ao : Option Addr) (m c : Nat) (l : List UInt8) (hx : a.eval x = .slice ao m c) (hl : l.length = m) (hb : Bytes w ao l) (hnone : ao = none → c = 0)
    (hroom : xs.length + m ≤ 140737488355328) (hbase : base ≤ w.heap.size)
    (h : ∀ v' w', AppB w w' base e v v' xs l → wpList P ops Q rest (a.put o.dst v') w') : wpList P ops Q (o :: rest) a w := by
  subst hl
  refine wpList_appS w hgd s x t ho base e (.int .u8 0) 1 1 ht hinfo rfl (by decide) v xs.length (xs.map B8) hs hown ao l.length c (l.map B8) hx (by simp) ?_ ?_ (B8_one l) (by unfold maxLen; omega) (by omega) hbase ?_
  · rintro ad rfl
    exact hb.news
  · rintro rfl
    rcases hb with rfl | ⟨_, _, h, _⟩
    · exact ⟨rfl, hnone rfl⟩
    · cases h
  · intro v' w' ha
    exact h v' w' ⟨by rw [List.length_append, List.map_append]; exact ha.own, ha.old, ha.grown, ha.blk, ha.nil⟩
/-- one byte in a new block is appended -/
theorem Bytes.one {w : World} {g : Nat} {t : Nat} {fr : Nat × Nat} (x : UInt8) (hg : g = w.heap.size) : Bytes (w.alloc (.cells #[.int .u8 (I8 x)] t fr)) (some ⟨g, 0, none⟩) [x] := by
  subst hg
  refine Or.inr ⟨w.heap.size, 0, rfl, fun j hj => ?_⟩
  have : j = 0 := by simpa using hj
  subst this
  rw [cell_of_row _ _ _ _ t fr (heap_alloc_new w _)]
  rfl
theorem own_alloc {w : World} {base e : Nat} {v : Value} {xs : List UInt8} (h : w.ownsRow base e 1 v xs.length (xs.map B8)) (o : Obj) : (w.alloc o).ownsRow base e 1 v xs.length (xs.map B8) := World.ownsRow.alloc h o
/-- the frame of an append -/
theorem AppB.fr {w w' : World} {base e : Nat} {v v' : Value} {xs l : List UInt8} (h : AppB w w' base e v v' xs l) : Fr v.ownBlock.toList w w' :=
  Fr.of_grown h.grown _ fun k hk _ => by simp [hk]
theorem own_lt {w : World} {base e size : Nat} {v : Value} {n : Nat} {xs : List Value} (h : w.ownsRow base e size v n xs) {g : Nat} (hg : v.ownBlock = some g) : base ≤ g ∧ g < w.heap.size := h.lt g hg
theorem own_fr {S : List Nat} {w w' : World} {base e size : Nat} {v : Value} {n : Nat} {xs : List Value} (h : w.ownsRow base e size v n xs) (hf : Fr S w w') (hS : ∀ g, v.ownBlock = some g → g ∉ S) : w'.ownsRow base e size v n xs := by
  refine ⟨h.1, ?_⟩
  rcases h.2 with h2 | ⟨g, cap, cur, rfl, hb, hh, rest⟩
  · exact .inl h2
  · exact .inr ⟨g, cap, cur, rfl, hb, hf.obj hh (hS g rfl), rest⟩
theorem own_base {w : World} {B B' e size : Nat} {v : Value} {n : Nat} {xs : List Value} (h : w.ownsRow B e size v n xs) (hB : B' ≤ B) : w.ownsRow B' e size v n xs := by
  refine ⟨h.1, ?_⟩
  rcases h.2 with h2 | ⟨g, cap, cur, rfl, hb, r⟩
  · exact .inl h2
  · exact .inr ⟨g, cap, cur, rfl, Nat.le_trans hB hb, r⟩

/-- bytes laid over others -/
def put (ys : List UInt8) (at_ : Nat) (bs : List UInt8) : List UInt8 := ys.take at_ ++ (bs ++ ys.drop (at_ + bs.length))
theorem put_length (ys : List UInt8) (at_ : Nat) (bs : List UInt8) (h : at_ + bs.length ≤ ys.length) : (put ys at_ bs).length = ys.length := by
  unfold put
  rw [List.length_append, List.length_append, List.length_take, List.length_drop]; omega
theorem put_next (ys : List UInt8) (at_ : Nat) (bs : List UInt8) (k : Nat) (hk : k < bs.length) (h : at_ + bs.length ≤ ys.length) :
    (put ys at_ (bs.take k)).set (at_ + k) (bs.getD k 0) = put ys at_ (bs.take (k + 1)) := by
  unfold put
  have h1 : (bs.take k).length = k := by rw [List.length_take]; omega
  have h2 : (bs.take (k + 1)).length = k + 1 := by rw [List.length_take]; omega
  have h3 : (ys.take at_).length = at_ := by rw [List.length_take]; omega
  rw [h1, h2, List.set_append_right _ _ (by omega), List.set_append_right _ _ (by omega), h1, h3]
  have e1 : ys.drop (at_ + k) = ys.getD (at_ + k) 0 :: ys.drop (at_ + (k + 1)) := by
    rw [List.drop_eq_getElem_cons (by omega)]
    have : at_ + k + 1 = at_ + (k + 1) := by omega
    rw [this]
    simp [List.getD, show at_ + k < ys.length by omega]
  have e2 : at_ + k - at_ - k = 0 := by omega
  have e3 : bs.getD k 0 = bs[k] := by simp [List.getD, hk]
  rw [e2, e1, List.set_cons_zero, take_snoc bs k hk, e3, List.append_assoc]
  rfl
/-- in room that is there: one byte is laid at the end of a shorter slice of an own block -/
theorem wpList_layB {P : Program} (w : World) {ops : Array Oper} {rest : List Oper} {o : Oper} {a : Act} {Q : Exit → Act → World → Prop} (hgd : o.guard = none) (s x : Operand) (t : TypeId)
    (ho : o.op = .call { callee := .builtin .append, args := #[s, x], argTypes := #[t, t] })
    (base : Nat) (e : TypeId) (ht : P.underlying t = some (.slice e)) (hinfo : (P.info? e).map (fun i => (i.zero, i.size, i.bytes)) = some (some (.int .u8 0), 1, 1))
    (g cap i c2 : Nat) (ys : List UInt8) (hs : a.eval s = .slice (some ⟨g, 0, none⟩) i c2) (hown : w.ownsRow base e 1 (.slice (some ⟨g, 0, none⟩) ys.length cap) ys.length (ys.map B8)) (hi : i < ys.length) (hc : i < c2)
    (ad : Addr) (c : Nat) (b : UInt8) (hx : a.eval x = .slice (some ad) 1 c) (hb : Bytes w (some ad) [b])
    (h : ∀ w', w'.ownsRow base e 1 (.slice (some ⟨g, 0, none⟩) ys.length cap) ys.length ((ys.set i b).map B8) → Fr [g] w w' → wpList P ops Q rest (a.put o.dst (.slice (some ⟨g, 0, none⟩) (i + 1) c2)) w') : wpList P ops Q (o :: rest) a w := by
  obtain ⟨inf, hi2, hz, hsz2, hby⟩ := info_parts hinfo
  rcases hown.2 with ⟨e1, _⟩ | ⟨g', cap', cur, e1, hbg, hg, hnc, hcm, hcs, htake⟩
  · cases e1
  simp only [Value.slice.injEq, Option.some.injEq, Addr.mk.injEq] at e1
  obtain ⟨⟨rfl, _⟩, _, rfl⟩ := e1
  have hl : cur.toList.length = cap := by rw [Array.length_toList, hcs]; omega
  rw [Nat.mul_one] at htake
  refine wpList_plain hgd fun K hK => ?_
  have hr := run_append_room (P := P) w t o.type e inf ht hi2 g i c2 cur hg ad 1 c [B8 b] (by rw [hsz2]; rfl) (by simpa using hb.news) (B8_one [b]) (by omega) (by rw [hsz2]; simp; omega)
  unfold Oper.wp execOp
  simp only [ho, resolve, invoke, builtin, Sem.run_bind, Sem.run_pure, Result.andThen_ok, List.map_toArray, List.map_cons, List.map_nil, hs, hx, hr]
  refine hK _ _ (h _ ?_ ?_)
  · have e2 : (cur.toList.take (i * inf.size) ++ [B8 b] ++ cur.toList.drop (i * inf.size + [B8 b].length)) = cur.toList.set i (B8 b) := by
      rw [hsz2, Nat.mul_one, List.set_eq_take_append_cons_drop, if_pos (by omega)]
      simp
    rw [e2]
    refine ⟨by simp, .inr ⟨g, cap, _, rfl, hbg, setRow_heap w g cur _ e _ hg, hnc, hcm, by simp [hcs], ?_⟩⟩
    rw [Nat.mul_one, List.take_set, htake, List.map_set]
  · exact ((Fr.refl [g] w).setRow (by simp) _)
end Go.Proofs.YtlckhfjkdahfpaaDoor

/- New memory that reads as bytes did. -/
namespace Go.Proofs.YtlckhfjkdahfpaaDoor
open Go.RowKit
theorem info8 : (Tryd.prog.info? 5).map (fun i => (i.zero, i.size, i.bytes)) = some (some (.int .u8 0), 1, 1) := by kernel_rfl

/-- new memory that reads as the bytes did -/
def Fresh (B : Nat) (w w' : World) (v : Value) (l : List UInt8) : Prop :=
  ∃ g cap, v = .slice (some ⟨g, 0, none⟩) l.length cap ∧ B ≤ g ∧ g < w'.heap.size ∧ w'.ownsRow B 5 1 v l.length (l.map B8) ∧ Fr [] w w'
theorem Fresh.bytes {B : Nat} {w w' : World} {v : Value} {l : List UInt8} (h : Fresh B w w' v l) : ∃ g cap, v = .slice (some ⟨g, 0, none⟩) l.length cap ∧ B ≤ g ∧ g < w'.heap.size ∧ Bytes w' (some ⟨g, 0, none⟩) l ∧ Fr [] w w' := by
  obtain ⟨g, cap, rfl, hg, hlt, ho, hf⟩ := h
  obtain ⟨a, cap', e, hb, _⟩ := Bytes.of_own ho
  simp only [Value.slice.injEq] at e
  obtain ⟨rfl, _, rfl⟩ := e
  exact ⟨g, _, rfl, hg, hlt, hb, hf⟩

theorem Fresh.free {B : Nat} {w w' : World} {v : Value} {l : List UInt8} (h : Fresh B w w' v l) : ∀ g, v.ownBlock = some g → ∀ j, w'.frozen? ⟨g, j, none⟩ = false := by
  intro g hg j
  obtain ⟨_, _, rfl, _, _, ho, _⟩ := h
  rcases ho.2 with ⟨e, _⟩ | ⟨g', cap', cur, e, _, hh, _⟩
  · cases e
  · simp only [Value.slice.injEq, Option.some.injEq, Addr.mk.injEq] at e
    obtain ⟨⟨rfl, _⟩, _⟩ := e
    simp only [Value.ownBlock, Option.some.injEq] at hg
    subst hg
    exact frozen_of_row w' _ j _ _ hh
theorem Fresh.mk {B : Nat} {w w' : World} {v : Value} {l : List UInt8} (h : w'.ownsRow B 5 1 v l.length (l.map B8)) (hn : v ≠ .slice none 0 0) (hf : Fr [] w w') : Fresh B w w' v l := by
  have hx := h.2
  rcases hx with ⟨e, _⟩ | ⟨g, cap, cur, rfl, hg, hh, _⟩
  · exact absurd e hn
  · exact ⟨g, cap, rfl, hg, (Array.getElem?_eq_some_iff.1 hh).1, h, hf⟩
/-- memory of the call's own that reads as the bytes did (nil where there were none) -/
def Got (B : Nat) (w w' : World) (v : Value) (l : List UInt8) : Prop := w'.ownsRow B 5 1 v l.length (l.map B8) ∧ Fr [] w w'
theorem Fresh.got {B : Nat} {w w' : World} {v : Value} {l : List UInt8} (h : Fresh B w w' v l) : Got B w w' v l := by
  obtain ⟨_, _, _, _, _, ho, hf⟩ := h
  exact ⟨ho, hf⟩
theorem Got.addr {B : Nat} {w w' : World} {v : Value} {l : List UInt8} (h : Got B w w' v l) (hl : 0 < l.length) : ∃ g cap, v = .slice (some ⟨g, 0, none⟩) l.length cap ∧ B ≤ g ∧ g < w'.heap.size ∧ l.length ≤ cap := by
  rcases h.1.2 with ⟨_, h0⟩ | ⟨g, cap, cur, rfl, hg, hh, hn, _⟩
  · omega
  · exact ⟨g, cap, rfl, hg, (Array.getElem?_eq_some_iff.1 hh).1, hn⟩
theorem Got.bytes {B : Nat} {w w' : World} {v : Value} {l : List UInt8} (h : Got B w w' v l) : ∃ a cap, v = .slice a l.length cap ∧ Bytes w' a l ∧ l.length ≤ cap ∧ (a = none → cap = 0) ∧ (∀ ad, a = some ad → B ≤ ad.block ∧ ad.off = 0 ∧ ad.spot = none) := by
  obtain ⟨a, cap, e, h1, h2, _, h3, h4⟩ := Bytes.of_own h.1
  exact ⟨a, cap, e, h1, h2, h3, h4⟩
theorem own_bytes {w : World} {B e : Nat} {g cap : Nat} {l : List UInt8} (h : w.ownsRow B e 1 (.slice (some ⟨g, 0, none⟩) l.length cap) l.length (l.map B8)) : Bytes w (some ⟨g, 0, none⟩) l := by
  obtain ⟨a, cap', e1, hb, _⟩ := Bytes.of_own h
  simp only [Value.slice.injEq] at e1
  obtain ⟨rfl, _, rfl⟩ := e1
  exact hb
theorem own_free {w : World} {B e : Nat} {v : Value} {n : Nat} {xs : List Value} (h : w.ownsRow B e 1 v n xs) {g : Nat} (hg : v.ownBlock = some g) (j : Nat) : w.frozen? ⟨g, j, none⟩ = false := by
  rcases h.2 with ⟨rfl, _⟩ | ⟨g', cap, cur, rfl, _, hh, _⟩
  · simp [Value.ownBlock] at hg
  · simp only [Value.ownBlock, Option.some.injEq] at hg
    subst hg
    exact frozen_of_row w g' j _ _ hh
/-- a cell of an own row is written -/
theorem own_set {w : World} {B e : Nat} {g cap : Nat} {l : List UInt8} (h : w.ownsRow B e 1 (.slice (some ⟨g, 0, none⟩) l.length cap) l.length (l.map B8)) (k : Nat) (x : UInt8) : (w.setCell ⟨g, k, none⟩ (B8 x)).ownsRow B e 1 (.slice (some ⟨g, 0, none⟩) l.length cap) l.length ((l.set k x).map B8) := by
  rcases h.2 with ⟨e1, _⟩ | ⟨g', cap', cur, e1, hb, hh, hn, hm, hs, ht⟩
  · cases e1
  simp only [Value.slice.injEq, Option.some.injEq, Addr.mk.injEq] at e1
  obtain ⟨⟨rfl, _⟩, _, rfl⟩ := e1
  refine ⟨by simp, .inr ⟨g, cap, _, rfl, hb, heap_setCell_same w g k cur _ _ hh, hn, hm, by simp [hs], ?_⟩⟩
  rw [Array.toList_setIfInBounds, List.take_set, ht, List.map_set]
/-- a list of the call's own that grows; the blocks of K are not its own -/
structure Grow (K : List Nat) (w0 wr : World) (v : Value) (xs : List UInt8) : Prop where
  own : wr.ownsRow w0.heap.size 5 1 v xs.length (xs.map B8)
  nil : v ≠ .slice none 0 0
  off : ∀ g ∈ K, g < wr.heap.size ∧ v.ownBlock ≠ some g
  fr : Fr [] w0 wr
theorem Grow.alloc {K : List Nat} {w0 wr : World} {v : Value} {xs : List UInt8} (h : Grow K w0 wr v xs) (o : Obj) : Grow K w0 (wr.alloc o) v xs :=
  ⟨own_alloc h.own o, h.nil, fun g hg => ⟨by have := (h.off g hg).1; simp; omega, (h.off g hg).2⟩, h.fr.alloc o⟩
theorem Grow.app {K : List Nat} {w0 wr w1 : World} {v v' : Value} {xs l : List UInt8} (h : Grow K w0 wr v xs) (ha : AppB wr w1 w0.heap.size 5 v v' xs l) : Grow K w0 w1 v' (xs ++ l) := by
  refine ⟨ha.own, fun e => h.nil (ha.nil.1 e).1, fun g hg => ⟨Nat.lt_of_lt_of_le (h.off g hg).1 ha.fr.size, fun e => ?_⟩, h.fr.next ha.fr fun i hi hlt => ?_⟩
  · rcases ha.blk with hb | ⟨g', hb, hg'⟩
    · exact (h.off g hg).2 (hb.symm.trans e)
    · rw [hb] at e
      have := Option.some.inj e
      have := (h.off g hg).1
      omega
  · have := (own_lt h.own (g := i) (by simpa using hi)).1
    omega
theorem Grow.keep {K : List Nat} {w0 wr w1 : World} {v v' : Value} {xs l m : List UInt8} {g off : Nat} (h : Grow K w0 wr v xs) (ha : AppB wr w1 w0.heap.size 5 v v' xs l) (hg : g ∈ K) (hb : Bytes wr (some ⟨g, off, none⟩) m) : Bytes w1 (some ⟨g, off, none⟩) m :=
  hb.fr ha.fr (.inr fun ad e => by cases e; simp; exact (h.off g hg).2)
theorem Grow.size {K : List Nat} {w0 wr : World} {v : Value} {xs : List UInt8} (h : Grow K w0 wr v xs) : w0.heap.size ≤ wr.heap.size := h.fr.size
theorem Grow.fresh {K : List Nat} {w0 wr : World} {v : Value} {xs : List UInt8} (h : Grow K w0 wr v xs) : Fresh w0.heap.size w0 wr v xs := Fresh.mk h.own h.nil h.fr
theorem Fresh.grow {w w' : World} {v : Value} {l : List UInt8} (h : Fresh w.heap.size w w' v l) : Grow [] w w' v l := by
  obtain ⟨g, cap, rfl, hg, hlt, ho, hf⟩ := h
  exact ⟨ho, by simp, fun _ hk => (List.not_mem_nil hk).elim, hf⟩
/-- further on, with a new block that is none of its own -/
theorem Grow.next {K : List Nat} {w0 wr w1 : World} {v : Value} {xs : List UInt8} (h : Grow K w0 wr v xs) (hf : Fr [] wr w1) (g : Nat) (hg : wr.heap.size ≤ g) (hlt : g < w1.heap.size) : Grow (g :: K) w0 w1 v xs := by
  refine ⟨own_fr h.own hf (by simp), h.nil, fun k hk => ?_, h.fr.trans hf⟩
  rcases List.mem_cons.1 hk with rfl | hk
  · exact ⟨hlt, fun e => by have := (own_lt h.own e).2; omega⟩
  · exact ⟨Nat.lt_of_lt_of_le (h.off k hk).1 hf.size, (h.off k hk).2⟩
theorem Grow.fr0 {K : List Nat} {w0 wr w1 : World} {v : Value} {xs : List UInt8} (h : Grow K w0 wr v xs) (hf : Fr [] wr w1) : Grow K w0 w1 v xs :=
  ⟨own_fr h.own hf (by simp), h.nil, fun k hk => ⟨Nat.lt_of_lt_of_le (h.off k hk).1 hf.size, (h.off k hk).2⟩, h.fr.trans hf⟩
theorem Fresh.cap {B : Nat} {w w' : World} {a : Option Addr} {n cap : Nat} {l : List UInt8} (h : Fresh B w w' (.slice a n cap) l) : l.length ≤ cap := by
  obtain ⟨g, cap', e, _, _, ho, _⟩ := h
  rw [e] at ho
  simp only [Value.slice.injEq] at e
  obtain ⟨_, _, rfl⟩ := e
  rcases ho.2 with ⟨e, _⟩ | ⟨g', cap', cur, e, _, _, hn, _⟩
  · cases e
  · simp only [Value.slice.injEq] at e
    omega
end Go.Proofs.YtlckhfjkdahfpaaDoor
