/- append(s, make([]T, n)...): a list of the call's own with n noughts behind, elements of one cell. No program. -/
import Derived.Test.YtlckhfjkdahfpaaDoorFresh
import Derived.Lib.AppendZerosOnto
import Derived.Test.YtlckhfjkdahfpaaDoorRfB
import Derived.Deep.RegionLaw
import Derived.Deep.DeepCutAuto
import Derived.Deep.RegionHeld3
namespace Go.Proofs.YtlckhfjkdahfpaaDoor
open Go.RowKit

theorem zeroCells_one (z : Value) (n : Nat) : Builtin.zeroCells #[z] n = (List.replicate n z).toArray := by
  apply Array.ext'
  apply List.ext_getElem?
  intro q
  by_cases hq : q < n <;> simp [Builtin.zeroCells, Nat.mod_one, List.getElem?_replicate, hq]
section
variable {P : Program} (w : World)
theorem run_append_room_zeros (t tn ty e : TypeId) (i : TypeInfo) (z : Value) (kq kn : IntKind) (ht : P.underlying t = some (.slice e)) (htn : P.underlying tn = some (.int kn)) (hi : P.info? e = some i) (hz : i.zero = some z) (hsz : i.size = 1) (hzc : z.cells = #[z]) (h1z : z.oneCell' = true)
    (g sLen sCap : Nat) (cur : Array Value) (hg : w.heap[g]? = some (.cells cur e (0, 0)))
    (m : Nat) (hm : 0 < m) (h48 : m * i.bytes ≤ 281474976710656) (h63 : (m : Int) ≤ 9223372036854775807) (hroom : sLen + m ≤ sCap) (hfit : sLen + m ≤ cur.size) :
    (Builtin.append_ #[t, tn] ty #[.slice (some ⟨g, 0, none⟩) sLen sCap, .int kq m]).run P w =
      .ok (.slice (some ⟨g, 0, none⟩) (sLen + m) sCap) (w.setRow g (cur.toList.take sLen ++ List.replicate m z ++ cur.toList.drop (sLen + m)).toArray) := by
  have hw : IntKind.i64.wrap (m : Int) = m := by rw [IntKind.wrap_i64]; omega
  have h48i : ¬ (281474976710656 < (m : Int) * (i.bytes : Int)) := by
    rw [← Int.natCast_mul]
    omega
  have hneg : ¬ ((m : Int) < 0) := by omega
  have hst := run_storeCells_at P g sLen e (List.replicate m z) 0 cur w hg (by simpa using hfit) (by intro u hu; rw [(List.mem_replicate.1 hu).2]; exact h1z)
  simp only [Nat.add_zero, List.length_replicate] at hst
  have hm0 : m ≠ 0 := by omega
  simp [Builtin.append_, run_underlying ht, run_underlying htn, sizeOf, typeInfo, zeroValue, hi, hz, hsz, asInt, asIntOf, hw, hneg, h48i, hroom, hm0, Addr.add_lit, hzc, zeroCells_one, hst]
theorem run_appZ (base : Nat) (t tn ty e : TypeId) (i : TypeInfo) (z : Value) (bytes : Nat) (kq kn : IntKind) (ht : P.underlying t = some (.slice e)) (htn : P.underlying tn = some (.int kn)) (hi : P.info? e = some i) (hz : i.zero = some z)
    (hsize : i.size = 1) (hby : i.bytes = bytes) (hzc : z.cells = #[z]) (h1z : z.oneCell' = true)
    (v : Value) (n : Nat) (xs : List Value) (hown : w.ownsRow base e 1 v n xs) (m : Nat) (hm : 0 < m)
    (h63 : n + m ≤ maxLen) (hbytes : (n + m) * bytes ≤ 140737488355328) (hbase : base ≤ w.heap.size) :
    ∃ v' w', (Builtin.append_ #[t, tn] ty #[v, .int kq m]).run P w = .ok v' w' ∧ App w w' base e 1 v v' n m xs (List.replicate m z) := by
  subst hby
  have hsmall : n + m ≤ 9223372036854775807 := by simp only [maxLen] at h63; omega
  have hl : (List.replicate m z).length = m := List.length_replicate
  have hlen : (xs ++ List.replicate m z).length = (n + m) * 1 := by rw [List.length_append, hown.1, hl]; omega
  have hmb : m * i.bytes ≤ 140737488355328 := Nat.le_trans (Nat.mul_le_mul_right _ (by omega)) hbytes
  have hzz : ∀ k, Builtin.zeroCells z.cells k = (List.replicate k z).toArray := fun k => by rw [hzc, zeroCells_one]
  have grown : ∀ (old : Nat), old < n + m → ∀ (row : Option Nat),
      (w.drew.alloc (.cells (xs.toArray ++ Builtin.zeroCells z.cells m ++ Builtin.zeroCells z.cells (grownCap w (n + m) old e - (n + m))) e)).ownsRow base e 1
        (.slice (some ⟨w.heap.size, 0, none⟩) (n + m) (grownCap w (n + m) old e)) (n + m) (xs ++ List.replicate m z) ∧
      w.grownBy (w.drew.alloc (.cells (xs.toArray ++ Builtin.zeroCells z.cells m ++ Builtin.zeroCells z.cells (grownCap w (n + m) old e - (n + m))) e)) row := by
    intro old ho row
    have hge := grownCap_ge w (n + m) old e
    have hcm : grownCap w (n + m) old e ≤ maxLen := grownCap_le_maxLen w (n + m) old e h63
    have hx1 := hown.1
    rw [hzz, hzz]
    refine ⟨⟨hlen, .inr ⟨w.heap.size, _, _, rfl, hbase, heap_alloc_new w.drew _, hge, hcm, ?_, ?_⟩⟩, ⟨rfl, rfl, rfl, by simp, fun k hk _ => Below.heap_alloc w.drew _ k hk⟩⟩
    · simp only [Array.size_append, List.size_toArray, hl, List.length_replicate]
      omega
    · simp only [Array.toList_append, List.append_assoc]
      rw [← List.append_assoc, ← hlen]
      exact List.take_left
  rcases hown.2 with ⟨rfl, rfl⟩ | ⟨g, cap, cur, rfl, hbg, hg, hnc, hcm, hcs, htake⟩
  · have hx : xs = [] := List.eq_nil_of_length_eq_zero (by simpa using hown.1)
    subst hx
    have hr := Lib.run_append_nil_zeros (P := P) w t tn ty e i z kq kn ht htn hi hz m hm (by omega) (by omega) (by omega)
    have hgr := grown 0 (by omega) (Value.ownBlock (.slice none 0 0))
    simp only [Nat.zero_add, List.nil_append, Array.empty_append] at hgr
    refine ⟨_, _, hr, ⟨by simpa using hgr.1, World.ownsRow_nil _ base e 1, hgr.2, .inr ⟨_, rfl, Nat.le_refl _⟩, by simp; omega⟩⟩
  · by_cases hroom : n + m ≤ cap
    · have hfit : n + m ≤ cur.size := by omega
      have hr := run_append_room_zeros (P := P) w t tn ty e i z kq kn ht htn hi hz hsize hzc h1z g n cap cur hg m hm (by omega) (by omega) hroom hfit
      have hsz2 : (cur.toList.take n ++ List.replicate m z ++ cur.toList.drop (n + m)).toArray.size = cap * 1 := by
        simp only [List.size_toArray, List.length_append, List.length_take, List.length_drop, Array.length_toList, List.length_replicate]
        omega
      rw [Nat.mul_one] at htake
      have hx1 := hown.1
      refine ⟨_, _, hr, ⟨⟨hlen, .inr ⟨g, cap, _, rfl, hbg, setRow_heap w g cur _ e _ hg, hroom, hcm, hsz2, ?_⟩⟩,
        ⟨hown.1, .inr ⟨g, cap, _, rfl, hbg, setRow_heap w g cur _ e _ hg, hnc, hcm, hsz2, ?_⟩⟩,
        ⟨rfl, rfl, rfl, by simp, fun k _ hk => setRow_other w g k _ (fun e => hk (by simp [Value.ownBlock, e]))⟩, .inl rfl, by simp⟩⟩
      · rw [htake, ← hlen]
        exact List.take_left
      · rw [htake]
        have : n * 1 = xs.length := hown.1.symm
        rw [this, List.append_assoc]
        exact List.take_left
    · have holds : ∀ j u, xs[j]? = some u → w.cell? ((⟨g, 0, none⟩ : Addr).add j) = some u := hown.cells (g := g) rfl
      have hold := run_firstCells_some (P := P) w.drew i.size n ⟨g, 0, none⟩ n cap xs (by rw [hsize]; exact hown.1) (by simpa using holds)
      have hr := Lib.run_append_grow_zeros (P := P) w t tn ty e i z kq kn ht htn hi hz (some ⟨g, 0, none⟩) n cap xs hold m hm (by omega) (by omega) (by omega) (by omega) (growslice_fits (by omega) hbytes)
      have hgr := grown cap (by omega) (Value.ownBlock (.slice (some ⟨g, 0, none⟩) n cap))
      have hk := (grown cap (by omega) none).2
      exact ⟨_, _, hr, ⟨hgr.1, hown.kept hk (.inr (by simp [Value.ownBlock])), hgr.2, .inr ⟨_, rfl, Nat.le_refl _⟩, by simp⟩⟩
end
theorem step_appZ {P : Program} {ops : Array Oper} {o : Oper} {a : Act} {w : World} {K : Act → World → Prop} {Q : Exit → Act → World → Prop} {E : Prop}
    (hg : o.guard = none) (s x : Operand) (t tn : TypeId) (hop : o.op = Op.call { callee := Callee.builtin Builtin.append, args := #[s, x], argTypes := #[t, tn] })
    (base : Nat) (e : TypeId) (z : Value) (bytes : Nat) (kn kq : IntKind) (ht : P.underlying t = some (.slice e)) (htn : P.underlying tn = some (.int kn)) (hinfo : (P.info? e).map (fun i => (i.zero, i.size, i.bytes)) = some (some z, 1, bytes))
    (hzc : z.cells = #[z]) (h1z : z.oneCell' = true)
    (v : Value) (n : Nat) (xs : List Value) (hs : a.eval s = v) (hown : w.ownsRow base e 1 v n xs) (m : Nat) (hx : a.eval x = .int kq m) (hm : 0 < m)
    (h63 : n + m ≤ maxLen) (hbytes : (n + m) * bytes ≤ 140737488355328) (hbase : base ≤ w.heap.size)
    (hK : ∀ v' w', App w w' base e 1 v v' n m xs (List.replicate m z) → K (a.put o.dst v') w') :
    if Region.wanted o (yielded ops a.tmps) = true then Oper.wp P o a w K Q else E := by
  have hw : Region.wanted o (yielded ops a.tmps) = true := by simp [Region.wanted, hg]
  rw [if_pos hw]
  obtain ⟨i, hi, hz, hsz2, hby⟩ := info_parts hinfo
  obtain ⟨v', w', hr, happ⟩ := run_appZ (P := P) w base t tn o.type e i z bytes kq kn ht htn hi hz hsz2 hby hzc h1z v n xs hown m hm h63 hbytes hbase
  unfold Oper.wp
  simp [execOp, hop, resolve, invoke, builtin, hs, hx, hr, Result.andThen]
  exact hK v' w' happ
end Go.Proofs.YtlckhfjkdahfpaaDoor

/- Record files: Get, set, Put. -/
namespace Go.Proofs.YtlckhfjkdahfpaaDoor
open Go.RowKit
attribute [local go_sem ↓] Go.wp_at_zero Go.wp_at_succ
/-- what Get gives -/
def getRd (R : Recs) (id : Int) : List UInt8 := if usedR R id = true then (R.getD id.toNat none).getD [] else []
theorem getRd_some {R : Recs} {k : Nat} {d : List UInt8} (h : R[k]? = some (some d)) : usedR R k = true ∧ getRd R k = d := by
  have hu : usedR R k = true := by rw [usedR_nat, List.getD_eq_getElem?_getD, h]; rfl
  refine ⟨hu, ?_⟩
  unfold getRd
  rw [if_pos hu, Int.toNat_natCast, List.getD_eq_getElem?_getD, h]
  rfl
theorem RFH.at {w : World} {B p g n c : Nat} {X : List LI} {s : RFS} (h : RFH w B p (.slice (some ⟨g, 0, none⟩) n c) X s) {k : Nat} {d : List UInt8} (hd : s.R[k]? = some (some d)) : ∃ gd cd, k < X.length ∧ w.cell? ⟨g, k, none⟩ = some (.slice (some ⟨gd, 0, none⟩) d.length cd) ∧ w.ownsRow B 5 1 (.slice (some ⟨gd, 0, none⟩) d.length cd) d.length (d.map B8) ∧ gd ∈ llB (.slice (some ⟨g, 0, none⟩) n c) X := by
  have hk : k < X.length := by rw [h.len]; exact (List.getElem?_eq_some_iff.1 hd).1
  have hx : X[k].o = some d := by
    have h1 := hd
    rw [← h.opt, List.getElem?_map, List.getElem?_eq_getElem hk] at h1
    simpa using h1
  obtain ⟨gd, cd, he, _, _⟩ := h.recs.isSome (List.getElem_mem hk) hx
  have hc := (h.recs.cell hk).1
  have ho := h.recs.dat _ (List.getElem_mem hk)
  rw [he] at hc ho
  exact ⟨gd, cd, hk, hc, ho, llB_x (List.getElem_mem hk) (by rw [he]; rfl)⟩
/-- the state with a record laid down -/
def RFS.put (s : RFS) (id : Nat) (d : List UInt8) : RFS := { s with R := putR s.R id d }
theorem RFS.Ok.put {s : RFS} (h : s.Ok) {id : Nat} {d : List UInt8} (hid : id < 65536) (hd : d.length + 1 = s.sz) : (s.put id d).Ok := by
  refine ⟨h.kd, h.vr, h.lo, h.hi, ?_, h.dat.put id d hd, fun i hi => ?_⟩
  · show (putR s.R id d).length ≤ 65536
    rw [putR_length]; have := h.len; omega
  · obtain ⟨e, he⟩ := h.low i hi
    have hlt : i < (putR s.R id d).length := by rw [putR_length]; have := (List.getElem?_eq_some_iff.1 he).1; omega
    have h1 := putR_get s.R id i d
    rw [List.getD_eq_getElem?_getD, List.getElem?_eq_getElem hlt, Option.getD_some, List.getD_eq_getElem?_getD, he, Option.getD_some] at h1
    show ∃ d', (putR s.R id d)[i]? = _
    rw [List.getElem?_eq_getElem hlt, h1]
    by_cases hid : i = id
    · rw [if_pos hid]; exact ⟨_, rfl⟩
    · rw [if_neg hid]; exact ⟨_, rfl⟩
/-- the list with room made -/
def growX (X : List LI) (id : Nat) : List LI := X ++ List.replicate (id + 1 - X.length) LI.no
theorem growX_length (X : List LI) (id : Nat) : (growX X id).length = max X.length (id + 1) := by unfold growX; rw [List.length_append, List.length_replicate]; omega
theorem growX_opt (X : List LI) (id : Nat) : (growX X id).map LI.o = growR (X.map LI.o) id := by unfold growX growR; rw [List.map_append, List.map_replicate, List.length_map]; rfl
theorem LL.grow {w w' : World} {B : Nat} {v v' : Value} {X : List LI} {id : Nat} (h : LL w B v X) (hid : X.length ≤ id) (ha : App w w' B 37 1 v v' X.length (id + 1 - X.length) (X.map LI.v) (List.replicate (id + 1 - X.length) (.slice none 0 0))) (hf : Fr v.ownBlock.toList w w') : LL w' B v' (growX X id) := by
  refine ⟨?_, fun x hx => ?_⟩
  · rw [growX_length]
    have := ha.own
    rw [show X.length + (id + 1 - X.length) = max X.length (id + 1) by omega] at this
    unfold growX
    rw [List.map_append, List.map_replicate]
    exact this
  · unfold growX at hx
    rcases List.mem_append.1 hx with hx | hx
    · exact own_fr (h.dat x hx) hf (fun i hi hm => h.off (by simpa using hm) x hx hi)
    · rw [(List.mem_replicate.1 hx).2]
      exact World.ownsRow_nil _ _ _ _
theorem llB_grow {v : Value} {X : List LI} {id i : Nat} (h : i ∈ llB v (growX X id)) : i ∈ llB v X := by
  rcases llB_cases h with h | ⟨x, hx, h⟩
  · exact llB_v h
  · unfold growX at hx
    rcases List.mem_append.1 hx with hx | hx
    · exact llB_x hx h
    · rw [(List.mem_replicate.1 hx).2] at h; cases h
theorem own_slR {w : World} {B e size n : Nat} {v : Value} {xs : List Value} (h : w.ownsRow B e size v n xs) : ∃ a c, v = .slice a n c := by
  rcases h.2 with ⟨rfl, rfl⟩ | ⟨g, cap, cur, rfl, _⟩
  · exact ⟨none, 0, rfl⟩
  · exact ⟨_, _, rfl⟩
theorem app_frZ {w w' : World} {base e size n m : Nat} {v v' : Value} {xs ys : List Value} (h : App w w' base e size v v' n m xs ys) : Fr v.ownBlock.toList w w' := Fr.of_grown h.grown _ fun k hk _ => by simpa using hk
theorem _root_.Go.World.ownsRow.drew1 {w : World} {B e size n : Nat} {v : Value} {xs : List Value} (h : w.ownsRow B e size v n xs) : w.drew.ownsRow B e size v n xs := h
/-- what holds behind set -/
def SetG (B p : Nat) (bs : List Nat) (w w' : World) (s : RFS) (id : Nat) (y : LI) : Prop :=
  ∃ bs', RF B bs' w' p (s.put id y.d) ∧ Fr bs w w' ∧ ∀ i ∈ bs', i ∈ bs ∨ w.heap.size ≤ i ∨ y.v.ownBlock = some i
theorem growR_get? {R : Recs} {id i : Nat} {d : List UInt8} (h : R[i]? = some (some d)) : (growR R id)[i]? = some (some d) := by
  unfold growR
  rw [List.getElem?_append_left (List.getElem?_eq_some_iff.1 h).1]
  exact h
def RFS.grow (s : RFS) (id : Nat) : RFS := { s with R := growR s.R id }
theorem RFS.Ok.grow {s : RFS} (h : s.Ok) {id : Nat} (hid : id < 65536) : (s.grow id).Ok := by
  refine ⟨h.kd, h.vr, h.lo, h.hi, ?_, h.dat.grow id, fun i hi => ?_⟩
  · show (growR s.R id).length ≤ 65536
    rw [growR_length]; have := h.len; omega
  · obtain ⟨d, hd⟩ := h.low i hi
    exact ⟨d, growR_get? hd⟩
theorem obj_p {w : World} {p g k T : Nat} {cs : Array Value} {v : Value} (h : w.heap[p]? = some (.cells cs T)) (hne : p ≠ g) : (w.setCell ⟨g, k, none⟩ v).heap[p]? = some (.cells cs T) := ((Fr.refl [g] w).setCell (by simp) v).obj h (by simpa using hne)
/-- a list's block is no file -/
theorem RFH.ne {w : World} {B p : Nat} {v : Value} {X : List LI} {s : RFS} (h : RFH w B p v X s) : v.ownBlock ≠ some p := by
  intro e
  rcases h.recs.row.2 with ⟨rfl, _⟩ | ⟨g, cap, cur, rfl, _, hh, _⟩
  · cases e
  · simp only [Value.ownBlock, Option.some.injEq] at e
    subst e
    rw [h.obj] at hh
    have := Option.some.inj hh
    simp only [Obj.cells.injEq] at this
    exact absurd this.2.1 (by decide)
theorem own_ne {w : World} {B p n T : Nat} {v : Value} {xs : List Value} {cs : Array Value} (h : w.ownsRow B 5 1 v n xs) (hp : w.heap[p]? = some (.cells cs T)) (hT : T ≠ 5) : v.ownBlock ≠ some p := by
  intro e
  rcases h.2 with ⟨rfl, _⟩ | ⟨g, cap, cur, rfl, _, hh, _⟩
  · cases e
  · simp only [Value.ownBlock, Option.some.injEq] at e
    subst e
    rw [hp] at hh
    have := Option.some.inj hh
    simp only [Obj.cells.injEq] at this
    exact hT this.2.1
/-- the last of it: the record's place is written, and the number of those in use -/
theorem RFH.lay {w : World} {B p g n c id : Nat} {X : List LI} {s : RFS} {y : LI} (h : RFH w B p (.slice (some ⟨g, 0, none⟩) n c) X s) (hid : id < X.length) (hy : w.ownsRow B 5 1 y.v y.d.length (y.d.map B8)) (ho : y.o = some y.d) (hd : y.d.length + 1 = s.sz) (m : Nat) (hm : m + (if (s.R.getD id none).isSome = true then 1 else 0) = liveN s.R + 1) {w2 : World}
    (hw2 : w2.heap[p]? = some (.cells #[.int .i64 s.kd, .int .i64 s.vr, .int .i64 s.sz, .slice (some ⟨g, 0, none⟩) n c, .int .i64 m, .int .i64 s.low] 93)) (hf2 : Fr [p] w w2) :
    RFH (w2.setCell ⟨g, id, none⟩ y.v) B p (.slice (some ⟨g, 0, none⟩) n c) (X.set id y) (s.put id y.d) ∧ Fr [p, g] w (w2.setCell ⟨g, id, none⟩ y.v) ∧ ∀ i ∈ rfB p (.slice (some ⟨g, 0, none⟩) n c) (X.set id y), i ∈ rfB p (.slice (some ⟨g, 0, none⟩) n c) X ∨ y.v.ownBlock = some i := by
  have hlen := h.len
  have hne : p ≠ g := fun e => h.ne (by rw [e]; rfl)
  have hg : growR s.R id = s.R := growR_id (by omega)
  have hy2 := own_fr hy hf2 (fun i hi hm => by simp at hm; subst hm; exact own_ne hy h.obj (by decide) hi)
  have hr2 : LL w2 B (.slice (some ⟨g, 0, none⟩) n c) X := h.recs.fr hf2 (fun i hi hm => by
    simp at hm
    subst hm
    rcases llB_cases hi with h1 | ⟨x, hx, h1⟩
    · exact h.ne h1
    · exact own_ne (h.recs.dat x hx) h.obj (by decide) h1)
  refine ⟨⟨?_, hr2.set hy2, ?_, h.ok.put (by have := h.ok.len; omega) hd, h.base⟩, ?_, ?_⟩
  · rw [obj_p hw2 hne]
    have h1 := liveN_put s.R id y.d
    have h2 : m = liveN (putR s.R id y.d) := by omega
    rw [h2]
    rfl
  · rw [List.map_set, h.opt, ho]
    show s.R.set id (some y.d) = (growR s.R id).set id (some y.d)
    rw [hg]
  · exact (hf2.mono (by simp)).setCell (by simp) _
  · intro i hi
    rcases List.mem_cons.1 hi with rfl | hi
    · exact .inl List.mem_cons_self
    · rcases llB_set hi with hi | hi
      · exact .inl (List.mem_cons_of_mem _ hi)
      · exact .inr hi
theorem RFH.grown {w wA : World} {B p id : Nat} {v v1 : Value} {X : List LI} {s : RFS} (h : RFH w B p v X s) (hid : X.length ≤ id) (hid2 : id < 65536) (ha : App w.drew wA B 37 1 v v1 X.length (id + 1 - X.length) (X.map LI.v) (List.replicate (id + 1 - X.length) (.slice none 0 0))) :
    RFH (wA.setCell ⟨p, 3, none⟩ v1) B p v1 (growX X id) (s.grow id) ∧ Fr (rfB p v X) w (wA.setCell ⟨p, 3, none⟩ v1) ∧ ∀ i ∈ rfB p v1 (growX X id), i ∈ rfB p v X ∨ w.heap.size ≤ i := by
  have hf : Fr v.ownBlock.toList w wA := ((Fr.refl _ w).drew).trans (app_frZ ha)
  have hA := hf.obj h.obj (fun hm => h.ne (by simpa using hm))
  have hr := (h.recs.keep ((Fr.refl [] w).drew)).grow hid ha (app_frZ ha)
  have hp : ∀ i ∈ llB v1 (growX X id), i ∉ [p] := by
    intro i hi hm
    simp at hm
    subst hm
    rcases llB_cases hi with h1 | ⟨x, hx, h1⟩
    · rcases hr.row.2 with ⟨e, _⟩ | ⟨g, cap, cur, e, _, hh, _⟩
      · rw [e] at h1; cases h1
      · rw [e] at h1
        simp only [Value.ownBlock, Option.some.injEq] at h1
        subst h1
        rw [hA] at hh
        have := Option.some.inj hh
        simp only [Obj.cells.injEq] at this
        exact absurd this.2.1 (by decide)
    · exact own_ne (hr.dat x hx) hA (by decide) h1
  refine ⟨⟨?_, hr.fr ((Fr.refl [p] wA).setCell (by simp) _) hp, by rw [growX_opt, h.opt]; rfl, h.ok.grow hid2, h.base⟩, ?_, ?_⟩
  · rw [heap_setCell_same wA p 3 _ _ _ hA]
    show some (Obj.cells #[.int .i64 s.kd, .int .i64 s.vr, .int .i64 s.sz, v1, .int .i64 (liveN s.R), .int .i64 s.low] _) = some (Obj.cells #[.int .i64 s.kd, .int .i64 s.vr, .int .i64 s.sz, v1, .int .i64 (liveN (growR s.R id)), .int .i64 s.low] _)
    rw [liveN_grow]
  · have hm : Fr (rfB p v X) w wA := hf.mono fun i hi _ => List.mem_cons_of_mem _ (llB_v (by simpa using hi))
    exact hm.setCell (p := ⟨p, 3, none⟩) (fun _ => List.mem_cons_self) _
  · intro i hi
    rcases List.mem_cons.1 hi with rfl | hi
    · exact .inl List.mem_cons_self
    · rcases llB_cases (llB_grow hi) with h1 | ⟨x, hx, h1⟩
      · rcases ha.blk with hb | ⟨g, hb, hg⟩
        · exact .inl (List.mem_cons_of_mem _ (llB_v (hb ▸ h1)))
        · rw [hb] at h1; cases h1; exact .inr hg
      · exact .inl (List.mem_cons_of_mem _ (llB_x hx h1))
theorem growR_twice (R : Recs) (id : Nat) : growR (growR R id) id = growR R id := growR_id (by rw [growR_length]; omega)
theorem set_done {w wc w' : World} {B p g n c id : Nat} {v : Value} {X X1 : List LI} {s : RFS} {y : LI} (_h : RFH w B p v X s) (r1 : RFH w' B p (.slice (some ⟨g, 0, none⟩) n c) (X1.set id y) ((s.grow id).put id y.d)) (r2 : Fr [p, g] wc w') (r3 : ∀ i ∈ rfB p (.slice (some ⟨g, 0, none⟩) n c) (X1.set id y), i ∈ rfB p (.slice (some ⟨g, 0, none⟩) n c) X1 ∨ y.v.ownBlock = some i)
    (hfr : Fr (rfB p v X) w wc) (hbs : ∀ i ∈ rfB p (.slice (some ⟨g, 0, none⟩) n c) X1, i ∈ rfB p v X ∨ w.heap.size ≤ i) (_hl : id < X1.length) (_hl2 : X1.length = max s.R.length (id + 1)) : SetG B p (rfB p v X) w w' s id y := by
  have e : (s.grow id).put id y.d = s.put id y.d := by
    show RFS.mk _ _ _ _ (putR (growR s.R id) id y.d) = RFS.mk _ _ _ _ (putR s.R id y.d)
    unfold putR
    rw [growR_twice]
    rfl
  rw [e] at r1
  refine ⟨_, ⟨_, _, r1, rfl⟩, ?_, ?_⟩
  · refine hfr.next r2 ?_
    intro i hi hlt
    simp at hi
    rcases hi with rfl | rfl
    · exact List.mem_cons_self
    · rcases hbs i (List.mem_cons_of_mem _ (llB_v rfl)) with h1 | h1
      · exact h1
      · omega
  · intro i hi
    rcases r3 i hi with h1 | h1
    · rcases hbs i h1 with h2 | h2
      · exact .inl h2
      · exact .inr (.inl h2)
    · exact .inr (.inr h1)
set_option maxRecDepth 100000 in
set_option maxHeartbeats 1600000 in
theorem set_F (B p : Nat) (w : World) (v : Value) (X : List LI) (s : RFS) (id : Nat) (y : LI) (h : RFH w B p v X s) (hid : id < 65536) (hB : B ≤ w.heap.size) (hy : w.ownsRow B 5 1 y.v y.d.length (y.d.map B8)) (ho : y.o = some y.d) (hd : y.d.length + 1 = s.sz) (hyo : ∀ g, y.v.ownBlock = some g → g ∉ rfB p v X) :
    Calls Tryd.prog 50 #[.pointer (some ⟨p, 0, none⟩), .int .i64 id, y.v] w fun e w' => (∃ v, e = .returned v) ∧ SetG B p (rfB p v X) w w' s id y := by
  obtain ⟨x0, x1, x2, x3, x4, x5⟩ := six h.obj
  obtain ⟨a, c, rfl, -⟩ := h.recs.sl
  have hz3 : w.frozen? ⟨p, 3, none⟩ = false := frozen_of_row _ _ 3 _ _ h.obj
  have hXl : X.length ≤ 65536 := by rw [h.len]; exact h.ok.len
  obtain ⟨yv, hyv⟩ : ∃ yv, yv = y.v := ⟨_, rfl⟩
  obtain ⟨ya, hya⟩ : ∃ ya, ya = y.a := ⟨_, rfl⟩
  obtain ⟨yn, hyn⟩ : ∃ yn, yn = y.d.length := ⟨_, rfl⟩
  obtain ⟨yc, hyc⟩ : ∃ yc, yc = y.c := ⟨_, rfl⟩
  have hyv2 : yv = .slice ya yn yc := by rw [hyv, hya, hyn, hyc]; rfl
  subst hyv2
  rw [← hyv]
  have HYV := Lib.hid hyv
  have HY := Lib.hid hy
  have HYO := Lib.hid hyo
  have HO := Lib.hid ho
  have HD := Lib.hid hd
  have H := Lib.hid h
  clear h hy hyv hyo ho hd hya hyn hyc
  go_enter Tryd.func50, Tryd.ntmps50
  go_upto_if 12 with fail
  go_cut [] (fun wx => ∃ (v1 : Value) (X1 : List LI), RFH wx B p v1 X1 (s.grow id) ∧ id < X1.length ∧ Fr (rfB p (.slice a X.length c) X) w wx ∧ ∀ i ∈ rfB p v1 X1, i ∈ rfB p (.slice a X.length c) X ∨ w.heap.size ≤ i)
  case first =>
    by_cases hlt : id < X.length
    · have h1 : ¬ (X.length : Int) ≤ (id : Int) := by omega
      go_wp2
      go_meet
      have hg : s.grow id = s := by unfold RFS.grow; rw [growR_id (by rw [← H.out.len]; exact hlt)]
      exact ⟨_, X, by rw [hg]; exact H.out, hlt, Fr.refl _ _, fun i hi => .inl hi⟩
    · have h1 : (X.length : Int) ≤ (id : Int) := by omega
      have e1 : IntKind.i64.wrap ((id : Int) + 1) = (id : Int) + 1 := IntWalk.i64_in _ (by omega)
      have e2 : IntKind.i64.wrap ((id : Int) + 1 - (X.length : Int)) = ((id + 1 - X.length : Nat) : Int) := by rw [IntWalk.i64_in _ (by omega)]; omega
      go_upto_region 1 with fail
      have HRW := Lib.hid (H.out.recs.row.drew1)
      have HNE : Hid (p ∉ (Value.slice a X.length c).ownBlock.toList) := Lib.hid (fun hm => H.out.ne (by simpa using hm))
      go_region_law (refine step_appZ rfl (.tmp 17) (.tmp 25) 91 3 rfl B 37 (.slice none 0 0) 24 .i64 .i64 Tryd.underlying91 Tryd.underlying3 infoLB rfl (by decide) (.slice a X.length c) X.length (X.map LI.v) (by simp [Act.eval, Act.put]) HRW.out (id + 1 - X.length) (by simp [Act.eval, Act.put]) (by omega) (by unfold maxLen; omega) (by omega) hB ?_; intro v1 wA ha; obtain ⟨ra, rc, rfl⟩ := own_slR ha.own; have HA := Lib.hid ha; have HFA := Lib.hid (app_frZ ha); have hob := HFA.out.obj (((Fr.refl [] w).drew).obj H.out.obj (by simp)) HNE.out; clear ha; obtain ⟨z0, z1, z2, z3, z4, z5⟩ := six hob; have zf := frozen_of_row _ _ 3 _ _ hob; have HOB := Lib.hid hob; clear hob)
      all_goals go_wp2
      all_goals go_meet
      all_goals
        obtain ⟨r1, r2, r3⟩ := H.out.grown (by omega) hid HA.out
        exact ⟨_, growX X id, r1, by rw [growX_length]; omega, r2, r3⟩
  case rest =>
    obtain ⟨v1, X1, hf, hl1, hfr, hbs⟩ := hcut
    clear x0 x1 x2 x3 x4 x5 hz3
    obtain ⟨x0, x1, x2, x3, x4, x5⟩ := six hf.obj
    obtain ⟨a1, c1, rfl, -⟩ := hf.recs.sl
    obtain ⟨g, rfl, -, -⟩ := hf.recs.pos (by omega)
    obtain ⟨k1, k2⟩ := hf.recs.cell hl1
    have hz4 : wc.frozen? ⟨p, 4, none⟩ = false := frozen_of_row _ _ 4 _ _ hf.obj
    have hX1 : X1.length ≤ 65536 := by rw [hf.len]; exact hf.ok.len
    have hlive : liveN (s.grow id).R ≤ 65536 := Nat.le_trans (liveN_le _) hf.ok.len
    have hi1 : (id : Int) < (X1.length : Int) := by omega
    have hne : p ≠ g := fun e => hf.ne (by rw [e]; rfl)
    have HYC := Lib.hid (own_fr HY.out hfr HYO.out)
    have hu : ((s.grow id).R.getD id none).isSome = X1[id].o.isSome := by
      rw [← hf.opt, List.getD_eq_getElem?_getD, List.getElem?_map, List.getElem?_eq_getElem hl1]
      rfl
    have HU := Lib.hid hu
    have HF := Lib.hid hf
    have HFR := Lib.hid hfr
    have HBS := Lib.hid hbs
    obtain ⟨x, hx⟩ : ∃ x, x = X1[id] := ⟨_, rfl⟩
    rw [← hx] at k1 HU
    have hm : x ∈ X1 := by rw [hx]; exact List.getElem_mem _
    clear hf hfr hbs hu hx
    obtain ⟨L, hL⟩ : ∃ L, L = liveN (s.grow id).R := ⟨_, rfl⟩
    rw [← hL] at x4 hlive
    have HL := Lib.hid hL
    clear hL
    have qE := eql_nil8
    cases ha : x.a with
    | none =>
      obtain rfl := HF.out.recs.isNil hm ha
      replace k1 : wc.cell? ⟨g, id, none⟩ = some (.slice none 0 0) := k1
      clear hm ha
      go_wp2_with fail
      refine bodyPost_end (results_none rfl _ _ _) rfl ?_
      refine ⟨⟨_, rfl⟩, ?_⟩
      have hw2 : (wc.setCell ⟨p, 4, none⟩ (.int .i64 ((L : Int) + 1))).heap[p]? = some (.cells #[.int .i64 (s.grow id).kd, .int .i64 (s.grow id).vr, .int .i64 (s.grow id).sz, .slice (some ⟨g, 0, none⟩) X1.length c1, .int .i64 ((L + 1 : Nat) : Int), .int .i64 (s.grow id).low] 93) := by
        rw [heap_setCell_same wc p 4 _ _ _ HF.out.obj]
        rfl
      obtain ⟨r1, r2, r3⟩ := HF.out.lay hl1 HYC.out HO.out (by rw [HD.out]; rfl) (L + 1) (by rw [HU.out, HL.out]; simp [LI.no_o]) hw2 ((Fr.refl [p] wc).setCell (by simp) _)
      rw [← HYV.out] at r1 r2
      exact set_done H.out r1 r2 r3 HFR.out HBS.out hl1 (by rw [HF.out.len]; exact growR_length s.R id)
    | some ad =>
      replace k1 : wc.cell? ⟨g, id, none⟩ = some (.slice (some ad) x.d.length x.c) := by rw [k1, LI.v, ha]
      have HS : Hid (x.o.isSome = true) := Lib.hid (by unfold LI.o; rw [ha]; rfl)
      clear hm ha
      go_wp2_with fail
      refine bodyPost_end (results_none rfl _ _ _) rfl ?_
      refine ⟨⟨_, rfl⟩, ?_⟩
      have hob := HF.out.obj
      rw [← HL.out] at hob
      obtain ⟨r1, r2, r3⟩ := HF.out.lay hl1 HYC.out HO.out (by rw [HD.out]; rfl) L (by rw [HU.out, HS.out, HL.out]; simp) hob (Fr.refl [p] wc)
      rw [← HYV.out] at r1 r2
      exact set_done H.out r1 r2 r3 HFR.out HBS.out hl1 (by rw [HF.out.len]; exact growR_length s.R id)
end Go.Proofs.YtlckhfjkdahfpaaDoor

/- Record files: Put, Free, Alloc. -/
namespace Go.Proofs.YtlckhfjkdahfpaaDoor
open Go.RowKit
attribute [local go_sem ↓] Go.wp_at_zero Go.wp_at_succ
/-- noughts -/
def zs (n : Nat) : List UInt8 := List.replicate n 0
theorem zs_length (n : Nat) : (zs n).length = n := List.length_replicate
theorem B8_0 : B8 0 = .int .u8 0 := by unfold B8; rw [show I8 0 = 0 by decide +kernel]
/-- make([]byte, n) -/
theorem make8 (n : Nat) (hn : n ≤ 1000000) (w : World) : (Instr.makeSlice 37 (.int .i64 (n : Int)) (.int .i64 (n : Int))).run Tryd.prog w = .ok (.slice (some ⟨w.heap.size, 0, none⟩) n n) (w.alloc (.cells ((zs n).map B8).toArray 5)) := by
  obtain ⟨i, hi, hz, hsz, hby⟩ := info_parts info8
  have h := run_make (P := Tryd.prog) w 37 5 i (.int .u8 0) Tryd.underlying37 hi hz .i64 .i64 n n (by omega) (by omega) (by rw [hby]; omega) (by omega)
  rw [h, hsz]
  have e : madeCells (Value.int .u8 0).cells (((n : Int).toNat) * 1) = ((zs n).map B8).toArray := by
    apply Array.ext'
    apply List.ext_getElem?
    intro q
    unfold zs
    rw [List.map_replicate, B8_0]
    by_cases hq : q < n <;> simp [madeCells, Value.cells, Nat.mod_one, List.getElem?_replicate, hq]
  rw [e]
  simp
theorem own_made (w : World) (l : List UInt8) (hl : l.length ≤ 1000000) : (w.alloc (.cells (l.map B8).toArray 5)).ownsRow w.heap.size 5 1 (.slice (some ⟨w.heap.size, 0, none⟩) l.length l.length) l.length (l.map B8) :=
  ⟨by simp, .inr ⟨w.heap.size, l.length, _, rfl, Nat.le_refl _, heap_alloc_new w _, Nat.le_refl _, by unfold maxLen; omega, by simp, by rw [List.take_of_length_le (by simp)]⟩⟩
theorem RF.own {B p : Nat} {bs : List Nat} {w : World} {s : RFS} (h : RF B bs w p s) : B ≤ w.heap.size := by
  obtain ⟨v, X, h, rfl⟩ := h
  have := h.lt p List.mem_cons_self
  omega
/-- Put's error -/
def putE (s : RFS) (id : Int) (n : Nat) : Int := if id < 0 ∨ 65536 ≤ id then 3 else if n + 1 ≠ s.sz then 4 else 0
def putS (s : RFS) (id : Int) (d : List UInt8) : RFS := if putE s id d.length = 0 then s.put id.toNat d else s
theorem putE_id {s : RFS} {id : Int} {n : Nat} (h : id < 0 ∨ 65536 ≤ id) : putE s id n = 3 := if_pos h
theorem putE_len {s : RFS} {id : Int} {n : Nat} (h : ¬ (id < 0 ∨ 65536 ≤ id)) (h2 : n + 1 ≠ s.sz) : putE s id n = 4 := by unfold putE; rw [if_neg h, if_pos h2]
theorem putE_ok {s : RFS} {id : Int} {n : Nat} (h : ¬ (id < 0 ∨ 65536 ≤ id)) (h2 : n + 1 = s.sz) : putE s id n = 0 := by unfold putE; rw [if_neg h, if_neg (by omega)]
theorem putS_not {s : RFS} {id : Int} {d : List UInt8} (h : putE s id d.length ≠ 0) : putS s id d = s := if_neg h
set_option maxRecDepth 100000 in
theorem Put_F (B : Nat) (bs : List Nat) (w : World) (p : Nat) (s : RFS) (id : Int) (a : Option Addr) (c : Nat) (l : List UInt8) (h : RF B bs w p s) (hl : l.length ≤ 140737488351300) (hno : a = none → c = 0) (hb : Bytes w a l) :
    Calls Tryd.prog 31 #[.pointer (some ⟨p, 0, none⟩), .int .i64 id, .slice a l.length c] w fun e w' => e = .returned (.int .i64 (putE s id l.length)) ∧ ∃ bs', RF B bs' w' p (putS s id l) ∧ Stp bs w bs' w' := by
  have hok := h.ok
  have HRF := Lib.hid h
  obtain ⟨v, X, h, rfl⟩ := h
  obtain ⟨x0, x1, x2, x3, x4, x5⟩ := six h.obj
  have HNO := Lib.hid hno
  have HB := Lib.hid hb
  have hlo := hok.lo
  have hhi := hok.hi
  clear hno hb
  by_cases h1 : id < 0
  · have HE := Lib.hid (putE_id (s := s) (id := id) (n := l.length) (.inl h1))
    have HS := Lib.hid (putS_not (s := s) (d := l) (id := id) (by rw [HE.out]; decide))
    clear h hok
    go_enter Tryd.func31, Tryd.ntmps31
    go_wp2
    go_ret
    exact ⟨by rw [HE.out]; rfl, _, by rw [HS.out]; exact HRF.out, Stp.refl _ _⟩
  · by_cases h2 : 65536 ≤ id
    · have HE := Lib.hid (putE_id (s := s) (id := id) (n := l.length) (.inr h2))
      have HS := Lib.hid (putS_not (s := s) (d := l) (id := id) (by rw [HE.out]; decide))
      clear h hok
      go_enter Tryd.func31, Tryd.ntmps31
      go_wp2
      go_ret
      exact ⟨by rw [HE.out]; rfl, _, by rw [HS.out]; exact HRF.out, Stp.refl _ _⟩
    · have e1 : IntKind.i64.wrap ((s.sz : Int) - 1) = ((s.sz - 1 : Nat) : Int) := by rw [IntWalk.i64_in _ (by omega)]; omega
      by_cases h3 : l.length + 1 = s.sz
      · obtain ⟨k, rfl⟩ : ∃ k : Nat, id = k := ⟨id.toNat, by omega⟩
        have HE := Lib.hid (putE_ok (s := s) (id := (k : Int)) (n := l.length) (by omega) h3)
        have HS : Hid (putS s (k : Int) l = s.put k l) := Lib.hid (by unfold putS; rw [HE.out, if_pos rfl]; rfl)
        have h4 : s.sz - 1 = l.length := by omega
        have H := Lib.hid h
        have H3 := Lib.hid h3
        clear h hok h3
        go_enter Tryd.func31, Tryd.ntmps31
        go_wp2_with fail
        refine (Clone_any a c l w (by omega) HNO.out HB.out).mono ?_
        rintro e w1 ⟨v1, rfl, hv1⟩
        obtain ⟨g, cap, rfl, hg, hgl, -⟩ := hv1.addr (by omega)
        have hf1 := hv1.2
        have hset := set_F B p w1 v X s k ⟨some ⟨g, 0, none⟩, cap, l⟩ (H.out.keep hf1) (by omega) (by have := HRF.out.own; have := hf1.size; omega) (own_base hv1.1 HRF.out.own) rfl H3.out (by
          intro i hi hm
          have e : g = i := by simpa [LI.v, Value.ownBlock] using hi
          subst e
          have := (H.out.lt _ hm).2
          omega)
        have HSET := Lib.hid hset
        have HG := Lib.hid hg
        have HF1 := Lib.hid hf1
        clear hv1 hf1 hset hg hgl
        go_wp2_with fail
        refine HSET.out.mono ?_
        rintro e w2 ⟨⟨v2, rfl⟩, bs', h1, h2, h3⟩
        have HR2 := Lib.hid h1
        have HT2 : Hid (Stp (rfB p v X) w bs' w2) := Lib.hid ⟨(HF1.out.mono (by simp)).trans h2, fun i hi => by
          rcases h3 i hi with h | h | h
          · exact .inl h
          · exact .inr (Nat.le_trans HF1.out.size h)
          · have e : g = i := by simpa [LI.v, Value.ownBlock] using h
            exact .inr (e ▸ HG.out)⟩
        clear h1 h2 h3
        go_wp2
        go_ret
        exact ⟨by rw [HE.out]; rfl, bs', by rw [HS.out]; exact HR2.out, HT2.out⟩
      · have HE := Lib.hid (putE_len (s := s) (id := id) (n := l.length) (by omega) h3)
        have HS := Lib.hid (putS_not (s := s) (d := l) (id := id) (by rw [HE.out]; decide))
        have h4 : ¬ l.length = s.sz - 1 := by omega
        clear h hok
        go_enter Tryd.func31, Tryd.ntmps31
        go_wp2
        go_ret
        exact ⟨by rw [HE.out]; rfl, _, by rw [HS.out]; exact HRF.out, Stp.refl _ _⟩
/-- Free's error -/
def freE (s : RFS) (id : Int) : Int := if usedR s.R id = true then 0 else 3
def freS (s : RFS) (id : Int) : RFS := if usedR s.R id = true then { s with R := freeR s.R id.toNat, low := min s.low id.toNat } else s
theorem RFS.Ok.free {s : RFS} (h : s.Ok) (k : Nat) : RFS.Ok { s with R := freeR s.R k, low := min s.low k } := by
  refine ⟨h.kd, h.vr, h.lo, h.hi, ?_, h.dat.free k, fun i hi => ?_⟩
  · show (s.R.set k none).length ≤ 65536
    rw [List.length_set]; exact h.len
  · have hi' : i < min s.low k := hi
    obtain ⟨d, hd⟩ := h.low i (by omega)
    refine ⟨d, ?_⟩
    show (s.R.set k none)[i]? = _
    rw [List.getElem?_set_ne (by omega)]
    exact hd
theorem RFH.unlay {w : World} {B p g n c k : Nat} {X : List LI} {s : RFS} (h : RFH w B p (.slice (some ⟨g, 0, none⟩) n c) X s) (hk : k < X.length) (hu : (s.R.getD k none).isSome = true) {w2 : World} (hw2 : w2 = ((w.setCell ⟨g, k, none⟩ (.slice none 0 0)).setCell ⟨p, 4, none⟩ (.int .i64 ((liveN (freeR s.R k) : Nat) : Int))).setCell ⟨p, 5, none⟩ (.int .i64 ((min s.low k : Nat) : Int))) :
    RF B (rfB p (.slice (some ⟨g, 0, none⟩) n c) (X.set k LI.no)) w2 p { s with R := freeR s.R k, low := min s.low k } ∧ Stp (rfB p (.slice (some ⟨g, 0, none⟩) n c) X) w (rfB p (.slice (some ⟨g, 0, none⟩) n c) (X.set k LI.no)) w2 := by
  have hne : p ≠ g := fun e => h.ne (by rw [e]; rfl)
  have hr := h.recs.set (k := k) (y := LI.no) (World.ownsRow_nil _ _ _ _)
  have hf : Fr [p] (w.setCell ⟨g, k, none⟩ (.slice none 0 0)) w2 := by rw [hw2]; exact ((Fr.refl [p] _).setCell (by simp) _).setCell (by simp) _
  have hob := obj_p (k := k) (v := .slice none 0 0) h.obj hne
  refine ⟨⟨_, _, ⟨?_, ?_, ?_, h.ok.free k, h.base⟩, rfl⟩, ?_, ?_⟩
  · rw [hw2, heap_setCell_same _ p 5 _ _ _ (heap_setCell_same _ p 4 _ _ _ hob)]
    rfl
  · refine hr.fr hf (fun i hi hm => ?_)
    simp at hm
    subst hm
    rcases llB_cases hi with h1 | ⟨x, hx, h1⟩
    · exact h.ne h1
    · exact own_ne (hr.dat x hx) hob (by decide) h1
  · rw [List.map_set, h.opt]; rfl
  · rw [hw2]
    refine Fr.setCell (p := ⟨p, 5, none⟩) (Fr.setCell (p := ⟨p, 4, none⟩) (Fr.setCell (p := ⟨g, k, none⟩) (Fr.refl _ w) (fun _ => List.mem_cons_of_mem _ (llB_v rfl)) _) (fun _ => List.mem_cons_self) _) (fun _ => List.mem_cons_self) _
  · intro i hi
    left
    rcases List.mem_cons.1 hi with rfl | hi
    · exact List.mem_cons_self
    · rcases llB_set hi with hi | hi
      · exact List.mem_cons_of_mem _ hi
      · cases hi
set_option maxRecDepth 100000 in
theorem Free_F (B : Nat) (bs : List Nat) (w : World) (p : Nat) (s : RFS) (id : Int) (h : RF B bs w p s) :
    Calls Tryd.prog 40 #[.pointer (some ⟨p, 0, none⟩), .int .i64 id] w fun e w' => e = .returned (.int .i64 (freE s id)) ∧ ∃ bs', RF B bs' w' p (freS s id) ∧ Stp bs w bs' w' := by
  have HU := Lib.hid (inUse_F B bs w p s id h)
  have HRF := Lib.hid h
  by_cases hu : usedR s.R id = true
  · have HE : Hid (freE s id = 0) := Lib.hid (if_pos hu)
    have HS : Hid (freS s id = { s with R := freeR s.R id.toNat, low := min s.low id.toNat }) := Lib.hid (if_pos hu)
    obtain ⟨h1, h2, d, hd⟩ := usedR_lt hu
    obtain ⟨k, rfl⟩ : ∃ k : Nat, id = k := ⟨id.toNat, by omega⟩
    rw [Int.toNat_natCast] at hd HS
    obtain ⟨v, X, h, rfl⟩ := h
    obtain ⟨x0, x1, x2, x3, x4, x5⟩ := six h.obj
    obtain ⟨a, c, rfl, -⟩ := h.recs.sl
    obtain ⟨g, rfl, -, -⟩ := h.recs.pos (by rw [h.len]; omega)
    obtain ⟨gd, cd, hk, hc, ho, -⟩ := h.at hd
    obtain ⟨-, hz⟩ := h.recs.cell hk
    have hz4 : w.frozen? ⟨p, 4, none⟩ = false := frozen_of_row _ _ 4 _ _ h.obj
    have hz5 : w.frozen? ⟨p, 5, none⟩ = false := frozen_of_row _ _ 5 _ _ h.obj
    have hk3 : (k : Int) < (X.length : Int) := by omega
    have hsm : (s.R.getD k none).isSome = true := by rw [List.getD_eq_getElem?_getD, hd]; rfl
    have hlf := liveN_free s.R k hsm
    have hll : liveN s.R ≤ 65536 := Nat.le_trans (liveN_le _) h.ok.len
    have hXl : X.length ≤ 65536 := by rw [h.len]; exact h.ok.len
    have hlow : s.low ≤ 65536 := Nat.le_trans h.ok.low_le h.ok.len
    have hne : p ≠ g := fun e => h.ne (by rw [e]; rfl)
    obtain ⟨L, hL⟩ : ∃ L, L = liveN (freeR s.R k) := ⟨_, rfl⟩
    have hL2 : liveN s.R = L + 1 := by omega
    rw [hL2] at x4
    have H := Lib.hid h
    have HL := Lib.hid hL
    have HSM := Lib.hid hsm
    have hLb : L ≤ 65536 := by omega
    rw [hu] at HU
    clear h hd ho hu hsm hlf hll hL hL2
    go_enter Tryd.func40, Tryd.ntmps40
    go_wp2_with fail
    refine HU.out.mono ?_
    rintro e w' ⟨rfl, rfl⟩
    go_wp2_with fail
    all_goals
      go_ret
      refine ⟨by rw [HE.out]; rfl, rfB p (.slice (some ⟨g, 0, none⟩) X.length c) (X.set k LI.no), ?_⟩
      rw [HS.out]
      refine H.out.unlay hk HSM.out ?_
      rw [← HL.out]
      first
        | rw [Nat.min_eq_left (by omega)]
        | rw [Nat.min_eq_right (by omega)]
  · have hu' : usedR s.R id = false := by simpa using hu
    have HE : Hid (freE s id = 3) := Lib.hid (if_neg hu)
    have HS : Hid (freS s id = s) := Lib.hid (if_neg hu)
    rw [hu'] at HU
    clear h hu hu'
    go_enter Tryd.func40, Tryd.ntmps40
    go_wp2_with fail
    refine HU.out.mono ?_
    rintro e w' ⟨rfl, rfl⟩
    go_wp2
    go_ret
    exact ⟨by rw [HE.out]; rfl, bs, by rw [HS.out]; exact HRF.out, Stp.refl _ _⟩
end Go.Proofs.YtlckhfjkdahfpaaDoor

/- Record files: Alloc. -/
namespace Go.Proofs.YtlckhfjkdahfpaaDoor
open Go.RowKit
attribute [local go_sem ↓] Go.wp_at_zero Go.wp_at_succ
/-- the state behind Alloc's search -/
def RFS.toLow (s : RFS) (k : Nat) : RFS := { s with low := k }
theorem RFS.Ok.toLow {s : RFS} (h : s.Ok) {k : Nat} (hk : k ≤ lowest s.R) : (s.toLow k).Ok := ⟨h.kd, h.vr, h.lo, h.hi, h.len, h.dat, fun i hi => lowest_used s.R i (Nat.lt_of_lt_of_le hi hk)⟩
def alE (s : RFS) : Int := if 65536 ≤ lowest s.R then 5 else 0
def alI (s : RFS) : Nat := if 65536 ≤ lowest s.R then 0 else lowest s.R
def alS (s : RFS) : RFS := if 65536 ≤ lowest s.R then s.toLow (lowest s.R) else (s.toLow (lowest s.R)).put (lowest s.R) (zs (s.sz - 1))
theorem RFS.Ok.low_lowest {s : RFS} (h : s.Ok) : s.low ≤ lowest s.R := by
  by_cases hle : s.low ≤ lowest s.R
  · exact hle
  · obtain ⟨d, hd⟩ := h.low (lowest s.R) (by omega)
    have := lowest_free s.R
    rw [List.getD_eq_getElem?_getD, hd] at this
    cases this
def lowAt (p : Nat) (w : World) : Nat := match w.cell? ⟨p, 5, none⟩ with | some (.int _ k) => k.toNat | _ => 0
theorem lowAt_eq {p k : Nat} {w : World} (h : w.cell? ⟨p, 5, none⟩ = some (.int .i64 (k : Int))) : lowAt p w = k := by unfold lowAt; rw [h]; simp
theorem RFH.low {w : World} {B p : Nat} {v : Value} {X : List LI} {s : RFS} (h : RFH w B p v X s) {k : Nat} (hk : k ≤ lowest s.R) : RFH (w.setCell ⟨p, 5, none⟩ (.int .i64 (k : Int))) B p v X (s.toLow k) := by
  have hf : Fr [p] w (w.setCell ⟨p, 5, none⟩ (.int .i64 (k : Int))) := (Fr.refl [p] w).setCell (by simp) _
  refine ⟨?_, h.recs.fr hf (fun i hi hm => ?_), h.opt, h.ok.toLow hk, h.base⟩
  · rw [heap_setCell_same w p 5 _ _ _ h.obj]
    rfl
  · simp at hm
    subst hm
    rcases llB_cases hi with h1 | ⟨x, hx, h1⟩
    · exact h.ne h1
    · exact own_ne (h.recs.dat x hx) h.obj (by decide) h1
theorem own_mk (w : World) (n : Nat) (hn : n ≤ 1000000) : (w.alloc (.cells ((zs n).map B8).toArray 5)).ownsRow w.heap.size 5 1 (.slice (some ⟨w.heap.size, 0, none⟩) n n) n ((zs n).map B8) := by
  have := own_made w (zs n) (by rw [zs_length]; exact hn)
  rwa [zs_length] at this
set_option maxRecDepth 100000 in
set_option maxHeartbeats 1600000 in
theorem Alloc_F (B : Nat) (bs : List Nat) (w : World) (p : Nat) (s : RFS) (h : RF B bs w p s) :
    Calls Tryd.prog 30 #[.pointer (some ⟨p, 0, none⟩)] w fun e w' => e = .returned (.tuple #[.int .i64 (alI s), .int .i64 (alE s)]) ∧ ∃ bs', RF B bs' w' p (alS s) ∧ Stp bs w bs' w' := by
  have hB := h.own
  obtain ⟨v, X, h, rfl⟩ := h
  obtain ⟨a, c, rfl, -⟩ := h.recs.sl
  have hlen := h.len
  have hok := h.ok
  have hlo := hok.lo
  have hhi := hok.hi
  have hXl : X.length ≤ 65536 := by rw [hlen]; exact hok.len
  have hll := hok.low_lowest
  have hlb : lowest s.R ≤ X.length := by rw [hlen]; exact lowest_le s.R
  have HLEN := Lib.hid hlen
  have H := Lib.hid h
  clear h hok hlen
  go_enter Tryd.func30, Tryd.ntmps30
  go_wp2_with fail
  go_loopw [] (fun wr => ∃ k : Nat, s.low ≤ k ∧ k ≤ lowest s.R ∧ RFH wr B p (.slice a X.length c) X (s.toLow k) ∧ Fr [p] w wr) (fun wr => lowest s.R - lowAt p wr)
  case atStart => exact ⟨s.low, Nat.le_refl _, hll, H.out, Fr.refl _ _⟩
  case round =>
    obtain ⟨k, hk1, hk2, hr, hf⟩ := hrel
    obtain ⟨x0, x1, x2, x3, x4, x5⟩ := six hr.obj
    have hz5 : wr.frozen? ⟨p, 5, none⟩ = false := frozen_of_row _ _ 5 _ _ hr.obj
    replace x5 : wr.cell? ⟨p, 5, none⟩ = some (.int .i64 (k : Int)) := x5
    replace x2 : wr.cell? ⟨p, 2, none⟩ = some (.int .i64 (s.sz : Int)) := x2
    have hla := lowAt_eq x5
    have qN := neq_nil8
    by_cases hlt : k < lowest s.R
    · obtain ⟨d, hd⟩ := lowest_used s.R k hlt
      obtain ⟨g, rfl, -, -⟩ := hr.recs.pos (by omega)
      obtain ⟨gd, cd, hkX, hc, -, -⟩ := hr.at (s := s.toLow k) hd
      have hki : (k : Int) < (X.length : Int) := by omega
      have hki0 : (0 : Int) ≤ (k : Int) := by omega
      have HR := Lib.hid hr
      have HFR := Lib.hid hf
      have HLA := Lib.hid hla
      clear hr hf hd hla
      go_wp2_with fail
      go_quiet (fail)
      go_wp2
      have hr1 := HR.out.keep ((Fr.refl [] wr).drewN nq)
      have hr2 := hr1.low (k := k + 1) (show k + 1 ≤ lowest s.R by omega)
      rw [show ((k : Int) + 1) = ((k + 1 : Nat) : Int) by omega]
      have hl2 : lowAt p ((wr.drewN nq).setCell ⟨p, 5, none⟩ (.int .i64 ((k + 1 : Nat) : Int))) = k + 1 := lowAt_eq (k := k + 1) (six hr2.obj).2.2.2.2.2
      have hla := HLA.out
      have hf2 := (HFR.out.drewN nq).setCell (p := ⟨p, 5, none⟩) (by intro _; simp) (.int .i64 ((k + 1 : Nat) : Int))
      refine ⟨⟨k + 1, by omega, by omega, hr2, hf2⟩, ?_⟩
      rw [hla, hl2]
      omega
    · obtain rfl : k = lowest s.R := by omega
      have hfree := lowest_free s.R
      have HR := Lib.hid hr
      have HFR := Lib.hid hf
      obtain ⟨K, hK⟩ : ∃ K, K = lowest s.R := ⟨_, rfl⟩
      rw [← hK] at x5 HR hfree hlb
      have HK := Lib.hid hK
      have hx : K = X.length ∨ ∃ g, a = some ⟨g, 0, none⟩ ∧ K < X.length ∧ wr.cell? ⟨g, K, none⟩ = some (.slice none 0 0) := by
        by_cases hKl : K < X.length
        · right
          cases a with
          | none => exact absurd hr.recs.row.1 (by
              rcases hr.recs.row.2 with ⟨e, h0⟩ | ⟨_, _, _, e, _⟩
              · omega
              · cases e)
          | some ad =>
            obtain ⟨g, e, -, -⟩ := hr.recs.pos (by omega)
            cases e
            refine ⟨g, rfl, hKl, ?_⟩
            rw [(hr.recs.cell hKl).1]
            have h1 : X[K].o = none := by
              have h2 := hfree
              have h3 : X.map LI.o = s.R := hr.opt
              rw [← h3, List.getD_eq_getElem?_getD, List.getElem?_map, List.getElem?_eq_getElem hKl] at h2
              exact h2
            have h4 : X[K].a = none := by
              cases ha : X[K].a with
              | none => rfl
              | some ad => unfold LI.o at h1; rw [ha] at h1; cases h1
            rw [hr.recs.isNil (List.getElem_mem hKl) h4]
            rfl
        · left; omega
      clear hr hf hla hfree hK hk1 hk2 hlt
      rcases hx with hKX | ⟨g, rfl, hKX, hc⟩
      · have hd : decide ((K : Int) < (X.length : Int)) = false := decide_eq_false (by omega)
        go_wp2_with fail
        go_quiet (fail)
        obtain ⟨W, hW⟩ : ∃ W, W = wr.drewN nq := ⟨_, rfl⟩
        rw [← hW]
        have hfw : Fr [] wr W := by rw [hW]; exact (Fr.refl [] wr).drewN nq
        have HRW := Lib.hid (HR.out.keep hfw)
        have HFW := Lib.hid (HFR.out.trans (hfw.mono (by simp)))
        have y5 := hfw.cell x5 (by simp)
        have y2 := hfw.cell x2 (by simp)
        have hXK : K ≤ 65536 := by omega
        clear hW hfw x5 x2 hd hz5 qN x0 x1 x3 x4 hKX hlb
        by_cases hb : 65536 ≤ K
        · have hbi : (65536 : Int) ≤ (K : Int) := by omega
          have HA : Hid (alI s = 0 ∧ alE s = 5 ∧ alS s = s.toLow K) := Lib.hid (by
            have h := HK.out
            rw [h] at hb
            exact ⟨if_pos hb, if_pos hb, by unfold alS; rw [if_pos hb, h]⟩)
          clear hb hXK
          go_wp2
          go_ret2
          obtain ⟨g1, g2, g3⟩ := HA.out
          refine ⟨by rw [g1, g2]; rfl, _, by rw [g3]; exact ⟨_, _, HRW.out, rfl⟩, ?_, fun i hi => .inl hi⟩
          exact HFW.out.mono (by intro i hi _; simp at hi; subst hi; exact List.mem_cons_self)
        · have hbi : ¬ (65536 : Int) ≤ (K : Int) := by omega
          have HA : Hid (alI s = K ∧ alE s = 0 ∧ alS s = (s.toLow K).put K (zs (s.sz - 1))) := Lib.hid (by
            have h := HK.out
            rw [h] at hb ⊢
            exact ⟨if_neg hb, if_neg hb, by unfold alS; rw [if_neg hb]⟩)
          obtain ⟨n, hn⟩ : ∃ n, n = s.sz - 1 := ⟨_, rfl⟩
          have e1 : IntKind.i64.wrap ((s.sz : Int) - 1) = (n : Int) := by rw [IntWalk.i64_in _ (by omega)]; omega
          have hmk := make8 n (by omega)
          have HSET : Hid (∀ W1 cap, Fr [] W W1 → W1.ownsRow W.heap.size 5 1 (.slice (some ⟨W.heap.size, 0, none⟩) n cap) n ((zs n).map B8) → Calls Tryd.prog 50 #[.pointer (some ⟨p, 0, none⟩), .int .i64 K, .slice (some ⟨W.heap.size, 0, none⟩) n cap] W1 fun e w' => (∃ v, e = .returned v) ∧ (∃ bs', RF B bs' w' p ((s.toLow K).put K (zs n)) ∧ Stp (rfB p (.slice a X.length c) X) w bs' w') ∧ w'.cell? ⟨p, 5, none⟩ = some (.int .i64 (K : Int))) := Lib.hid fun W1 cap hw1 ho1 => by
            have hBW : B ≤ W.heap.size := by have := HFW.out.size; omega
            have ho2 : W1.ownsRow B 5 1 (LI.v ⟨some ⟨W.heap.size, 0, none⟩, cap, zs n⟩) (zs n).length ((zs n).map B8) := by
              rw [zs_length]; unfold LI.v; rw [zs_length]; exact own_base ho1 hBW
            have h := set_F B p W1 (.slice a X.length c) X (s.toLow K) K ⟨some ⟨W.heap.size, 0, none⟩, cap, zs n⟩ (HRW.out.keep hw1) (by omega) (by have := hw1.size; omega) ho2 rfl (by rw [zs_length]; show n + 1 = s.sz; omega) (by
              intro i hi hm
              have e : W.heap.size = i := by simpa [LI.v, Value.ownBlock] using hi
              subst e
              have := (HRW.out.lt _ hm).2
              omega)
            rw [show LI.v ⟨some ⟨W.heap.size, 0, none⟩, cap, zs n⟩ = .slice (some ⟨W.heap.size, 0, none⟩) n cap by unfold LI.v; rw [zs_length]] at h
            refine h.mono ?_
            rintro e w' ⟨hv, bs', h1, h2, h3⟩
            refine ⟨hv, ⟨bs', h1, ?_, ?_⟩, ?_⟩
            · refine ((HFW.out.mono ?_).trans (hw1.mono (by simp))).next h2 fun i hi _ => hi
              intro i hi _
              simp at hi
              subst hi
              exact List.mem_cons_self
            · intro i hi
              rcases h3 i hi with h | h | h
              · exact .inl h
              · have := hw1.size; have := HFW.out.size; exact .inr (by omega)
              · have e : W.heap.size = i := by simpa [LI.v, Value.ownBlock] using h
                subst e
                exact .inr HFW.out.size
            · obtain ⟨v2, X2, hr2, _⟩ := h1
              exact (six hr2.obj).2.2.2.2.2
          have HN := Lib.hid hn
          have HNB : Hid (n ≤ 1000000) := Lib.hid (by omega)
          clear hb hn HR HFR hXK
          go_upto_region 5 with fail
          go_region_held3 (fun w' => w'.cell? ⟨p, 5, none⟩ = some (.int .i64 (K : Int)) ∧ w'.cell? ⟨p, 2, none⟩ = some (.int .i64 (s.sz : Int)))
            (first
              | with_reducible assumption
              | exact ⟨y5, y2⟩
              | exact ⟨((Fr.refl [] W).alloc _).cell y5 (by simp), ((Fr.refl [] W).alloc _).cell y2 (by simp)⟩
              | exact ⟨hA5, hA2⟩)
            (first
              | (go_at_call 50; (refine (HSET.out _ n (((Fr.refl [] W).alloc _).drew) ?_).mono ?_); (exact own_mk W n HNB.out); rintro e wA ⟨⟨vA, rfl⟩, ⟨bs', hA1, hA3⟩, hA5⟩; have hA2 : wA.cell? ⟨p, 2, none⟩ = some (.int .i64 (s.sz : Int)) := (by obtain ⟨v2, X2, hr2, _⟩ := hA1; exact (six hr2.obj).2.2.1)))
          all_goals
            have HA1 := Lib.hid hA1
            have HA3 := Lib.hid hA3
            clear hA1 hA3 hmk
            go_wp2
            go_ret2
            obtain ⟨g1, g2, g3⟩ := HA.out
            refine ⟨by rw [g1, g2]; rfl, bs', ?_, HA3.out⟩
            have h := HA1.out
            rw [HN.out] at h
            rw [g3]
            exact h
      · have hd : decide ((K : Int) < (X.length : Int)) = true := decide_eq_true (by omega)
        have hki : (K : Int) < (X.length : Int) := by omega
        have hki0 : (0 : Int) ≤ (K : Int) := by omega
        go_wp2_with fail
        go_quiet (fail)
        clear hki hki0 hc
        obtain ⟨W, hW⟩ : ∃ W, W = wr.drewN nq := ⟨_, rfl⟩
        rw [← hW]
        have hfw : Fr [] wr W := by rw [hW]; exact (Fr.refl [] wr).drewN nq
        have HRW := Lib.hid (HR.out.keep hfw)
        have HFW := Lib.hid (HFR.out.trans (hfw.mono (by simp)))
        have y5 := hfw.cell x5 (by simp)
        have y2 := hfw.cell x2 (by simp)
        have hXK : K ≤ 65536 := by omega
        clear hW hfw x5 x2 hd hz5 qN x0 x1 x3 x4 hKX hlb
        by_cases hb : 65536 ≤ K
        · have hbi : (65536 : Int) ≤ (K : Int) := by omega
          have HA : Hid (alI s = 0 ∧ alE s = 5 ∧ alS s = s.toLow K) := Lib.hid (by
            have h := HK.out
            rw [h] at hb
            exact ⟨if_pos hb, if_pos hb, by unfold alS; rw [if_pos hb, h]⟩)
          clear hb hXK
          go_wp2
          go_ret2
          obtain ⟨g1, g2, g3⟩ := HA.out
          refine ⟨by rw [g1, g2]; rfl, _, by rw [g3]; exact ⟨_, _, HRW.out, rfl⟩, ?_, fun i hi => .inl hi⟩
          exact HFW.out.mono (by intro i hi _; simp at hi; subst hi; exact List.mem_cons_self)
        · have hbi : ¬ (65536 : Int) ≤ (K : Int) := by omega
          have HA : Hid (alI s = K ∧ alE s = 0 ∧ alS s = (s.toLow K).put K (zs (s.sz - 1))) := Lib.hid (by
            have h := HK.out
            rw [h] at hb ⊢
            exact ⟨if_neg hb, if_neg hb, by unfold alS; rw [if_neg hb]⟩)
          obtain ⟨n, hn⟩ : ∃ n, n = s.sz - 1 := ⟨_, rfl⟩
          have e1 : IntKind.i64.wrap ((s.sz : Int) - 1) = (n : Int) := by rw [IntWalk.i64_in _ (by omega)]; omega
          have hmk := make8 n (by omega)
          have HSET : Hid (∀ W1 cap, Fr [] W W1 → W1.ownsRow W.heap.size 5 1 (.slice (some ⟨W.heap.size, 0, none⟩) n cap) n ((zs n).map B8) → Calls Tryd.prog 50 #[.pointer (some ⟨p, 0, none⟩), .int .i64 K, .slice (some ⟨W.heap.size, 0, none⟩) n cap] W1 fun e w' => (∃ v, e = .returned v) ∧ (∃ bs', RF B bs' w' p ((s.toLow K).put K (zs n)) ∧ Stp (rfB p (.slice (some ⟨g, 0, none⟩) X.length c) X) w bs' w') ∧ w'.cell? ⟨p, 5, none⟩ = some (.int .i64 (K : Int))) := Lib.hid fun W1 cap hw1 ho1 => by
            have hBW : B ≤ W.heap.size := by have := HFW.out.size; omega
            have ho2 : W1.ownsRow B 5 1 (LI.v ⟨some ⟨W.heap.size, 0, none⟩, cap, zs n⟩) (zs n).length ((zs n).map B8) := by
              rw [zs_length]; unfold LI.v; rw [zs_length]; exact own_base ho1 hBW
            have h := set_F B p W1 (.slice (some ⟨g, 0, none⟩) X.length c) X (s.toLow K) K ⟨some ⟨W.heap.size, 0, none⟩, cap, zs n⟩ (HRW.out.keep hw1) (by omega) (by have := hw1.size; omega) ho2 rfl (by rw [zs_length]; show n + 1 = s.sz; omega) (by
              intro i hi hm
              have e : W.heap.size = i := by simpa [LI.v, Value.ownBlock] using hi
              subst e
              have := (HRW.out.lt _ hm).2
              omega)
            rw [show LI.v ⟨some ⟨W.heap.size, 0, none⟩, cap, zs n⟩ = .slice (some ⟨W.heap.size, 0, none⟩) n cap by unfold LI.v; rw [zs_length]] at h
            refine h.mono ?_
            rintro e w' ⟨hv, bs', h1, h2, h3⟩
            refine ⟨hv, ⟨bs', h1, ?_, ?_⟩, ?_⟩
            · refine ((HFW.out.mono ?_).trans (hw1.mono (by simp))).next h2 fun i hi _ => hi
              intro i hi _
              simp at hi
              subst hi
              exact List.mem_cons_self
            · intro i hi
              rcases h3 i hi with h | h | h
              · exact .inl h
              · have := hw1.size; have := HFW.out.size; exact .inr (by omega)
              · have e : W.heap.size = i := by simpa [LI.v, Value.ownBlock] using h
                subst e
                exact .inr HFW.out.size
            · obtain ⟨v2, X2, hr2, _⟩ := h1
              exact (six hr2.obj).2.2.2.2.2
          have HN := Lib.hid hn
          have HNB : Hid (n ≤ 1000000) := Lib.hid (by omega)
          clear hb hn HR HFR hXK
          go_upto_region 5 with fail
          go_region_held3 (fun w' => w'.cell? ⟨p, 5, none⟩ = some (.int .i64 (K : Int)) ∧ w'.cell? ⟨p, 2, none⟩ = some (.int .i64 (s.sz : Int)))
            (first
              | with_reducible assumption
              | exact ⟨y5, y2⟩
              | exact ⟨((Fr.refl [] W).alloc _).cell y5 (by simp), ((Fr.refl [] W).alloc _).cell y2 (by simp)⟩
              | exact ⟨hA5, hA2⟩)
            (first
              | (go_at_call 50; (refine (HSET.out _ n (((Fr.refl [] W).alloc _).drew) ?_).mono ?_); (exact own_mk W n HNB.out); rintro e wA ⟨⟨vA, rfl⟩, ⟨bs', hA1, hA3⟩, hA5⟩; have hA2 : wA.cell? ⟨p, 2, none⟩ = some (.int .i64 (s.sz : Int)) := (by obtain ⟨v2, X2, hr2, _⟩ := hA1; exact (six hr2.obj).2.2.1)))
          all_goals
            have HA1 := Lib.hid hA1
            have HA3 := Lib.hid hA3
            clear hA1 hA3 hmk
            go_wp2
            go_ret2
            obtain ⟨g1, g2, g3⟩ := HA.out
            refine ⟨by rw [g1, g2]; rfl, bs', ?_, HA3.out⟩
            have h := HA1.out
            rw [HN.out] at h
            rw [g3]
            exact h
end Go.Proofs.YtlckhfjkdahfpaaDoor
