/- append of a string onto a slice of bytes of the call's own: what it gives, and in which block. No program. -/
import Derived.Test.YtlckhfjkdahfpaaDoorFresh
import Derived.Lib.AppendStr
import Derived.Test.YtlckhfjkdahfpaaDoorWireH
namespace Go.Proofs.YtlckhfjkdahfpaaDoor
open Go.RowKit
section
variable {P : Program} (w : World)
theorem strCells_B8 (l : List UInt8) : Lib.strCells ⟨l.toArray⟩ = l.map B8 := by
  simp only [Lib.strCells]
  apply List.map_congr_left
  intro x _
  show Value.int .u8 _ = Value.int .u8 (I8 x)
  unfold I8
  rfl
theorem run_appStr (base : Nat) (t u ty e : TypeId) (i : TypeInfo) (ht : P.underlying t = some (.slice e)) (hu : P.underlying u = some .string) (hi : P.info? e = some i) (hz : i.zero = some (.int .u8 0))
    (hsize : i.size = 1) (hby : i.bytes = 1) (v : Value) (xs m : List UInt8) (hown : w.ownsRow base e 1 v xs.length (xs.map B8))
    (hroom : xs.length + m.length ≤ 140737488355328) (hbase : base ≤ w.heap.size) :
    ∃ v' w', (Builtin.append_ #[t, u] ty #[v, .string ⟨m.toArray⟩]).run P w = .ok v' w' ∧ w'.ownsRow base e 1 v' (xs ++ m).length ((xs ++ m).map B8) ∧ w.grownBy w' v.ownBlock ∧
      (v'.ownBlock = v.ownBlock ∨ ∃ g, v'.ownBlock = some g ∧ w.heap.size ≤ g) := by
  have hss : (⟨m.toArray⟩ : ByteArray).size = m.length := by simp [ByteArray.size]
  obtain ⟨s, hs⟩ : ∃ s : ByteArray, s = ⟨m.toArray⟩ := ⟨_, rfl⟩
  have hsc : Lib.strCells s = m.map B8 := by rw [hs]; exact strCells_B8 m
  rw [← hs] at hss ⊢
  obtain ⟨v', w', hr, hown', hgr, hnil⟩ := Lib.run_append_own_string (P := P) w base t u ty e i ht hu hi hz hsize hby v xs.length (xs.map B8) hown s (by unfold maxLen; omega) (by omega) hbase
  refine ⟨v', w', hr, ?_, hgr, ?_⟩
  · rw [List.length_append, ← hss, List.map_append, ← hsc]; exact hown'
  · rcases hown.2 with ⟨rfl, h0⟩ | ⟨g, cap, cur, rfl, hbg, hg, hnc, hcm, hcs, htake⟩
    · by_cases hm : s.size = 0
      · exact .inl (by rw [hnil.2 ⟨rfl, hm⟩])
      · have hr2 := run_append_nil_string (P := P) w t u ty e i (.int .u8 0) ht hu hi hz s (by omega) (by omega) (by rw [hby]; omega)
        rw [hr2] at hr
        simp only [Result.ok.injEq] at hr
        exact .inr ⟨w.heap.size, by rw [← hr.1]; rfl, Nat.le_refl _⟩
    · have hxl : (xs.map B8).length = xs.length := by simp
      have hcs' : cur.size = cap := by simpa using hcs
      by_cases hrm : xs.length + s.size ≤ cap
      · have hr2 := Lib.run_append_room_string (P := P) w t u ty e i ht hu hi hsize g xs.length cap cur hg s hrm (by omega)
        rw [hr2] at hr
        simp only [Result.ok.injEq] at hr
        exact .inl (by rw [← hr.1]; rfl)
      · have holds : ∀ j u, (xs.map B8)[j]? = some u → w.cell? ((⟨g, 0, none⟩ : Addr).add j) = some u := hown.cells (g := g) rfl
        have hr2 := Lib.run_append_grow_string (P := P) w t u ty e i (.int .u8 0) ht hu hi hz ⟨g, 0, none⟩ xs.length cap (xs.map B8) (by rw [hsize]; simp) holds s (by omega) (by omega) (by rw [hby]; exact growslice_fits (by omega) (by omega))
        rw [hr2] at hr
        simp only [Result.ok.injEq] at hr
        exact .inr ⟨w.heap.size, by rw [← hr.1]; rfl, Nat.le_refl _⟩
theorem wpList_appStr {ops : Array Oper} {rest : List Oper} {o : Oper} {a : Act} {Q : Exit → Act → World → Prop} (hgd : o.guard = none) (sl x : Operand) (t u : TypeId)
    (ho : o.op = .call { callee := .builtin .append, args := #[sl, x], argTypes := #[t, u] })
    (base : Nat) (e : TypeId) (ht : P.underlying t = some (.slice e)) (hu : P.underlying u = some .string) (hinfo : (P.info? e).map (fun i => (i.zero, i.size, i.bytes)) = some (some (.int .u8 0), 1, 1))
    (v : Value) (xs m : List UInt8) (hs : a.eval sl = v) (hown : w.ownsRow base e 1 v xs.length (xs.map B8)) (hx : a.eval x = .string ⟨m.toArray⟩)
    (hroom : xs.length + m.length ≤ 140737488355328) (hbase : base ≤ w.heap.size)
    (h : ∀ v' w', w'.ownsRow base e 1 v' (xs ++ m).length ((xs ++ m).map B8) → Fr v.ownBlock.toList w w' → (v'.ownBlock = v.ownBlock ∨ ∃ g, v'.ownBlock = some g ∧ w.heap.size ≤ g) → wpList P ops Q rest (a.put o.dst v') w') : wpList P ops Q (o :: rest) a w := by
  obtain ⟨i, hi, hz, hsz2, hby⟩ := info_parts hinfo
  refine wpList_plain hgd fun K hK => ?_
  obtain ⟨v', w', hr, h2, h3, h4⟩ := run_appStr (P := P) w base t u o.type e i ht hu hi hz hsz2 hby v xs m hown hroom hbase
  unfold Oper.wp execOp
  simp only [ho, resolve, invoke, builtin, Sem.run_bind, Sem.run_pure, Result.andThen_ok, List.map_toArray, List.map_cons, List.map_nil, hs, hx, hr]
  exact hK _ _ (h v' w' h2 (Fr.of_grown h3 _ fun k hk _ => by simp [hk]) h4)
end
end Go.Proofs.YtlckhfjkdahfpaaDoor

/- The walks of Writer.Str and Writer.Len, and what Num puts at any width. -/
namespace Go.Proofs.YtlckhfjkdahfpaaDoor
open Go.RowKit
attribute [local go_sem] mulU256 wrapU_nat wrapU_I8 wrapU addU mulU remU divU byteU shrU I8_ne I8_eq U_eq U_ne
theorem Str_any (B p : Nat) (v : Value) (l m : List UInt8) (w : World) (ho : w.heap[p]? = some (.cells #[v] 121)) (hown : w.ownsRow B 5 1 v l.length (l.map B8)) (hne : v.ownBlock ≠ some p) (hB : B ≤ w.heap.size)
    (hroom : l.length + m.length ≤ 140737488355328) :
    Calls Tryd.prog 59 #[.pointer (some ⟨p, 0, none⟩), .string ⟨m.toArray⟩] w fun e w' => e = .returned (.tuple #[]) ∧ ∃ v', Puts B w w' p v v' (l ++ m) := by
  have hcell : w.cell? ⟨p, 0, none⟩ = some v := cell_of_row _ _ 0 _ _ _ ho
  have HO := Lib.hid ho
  clear ho
  go_enter Tryd.func59, Tryd.ntmps59
  go_wp2_with (at_builtin; refine wpList_appStr _ rfl _ _ 37 9 rfl B 5 Tryd.underlying37 Tryd.underlying9 info8 v l m rfl hown rfl hroom hB ?_; intro v' w1 h1 h2 h3; obtain ⟨a', cap', rfl, _⟩ := Bytes.of_own h1; have hc1 := h2.cell hcell (by simpa using hne); have hz1 := frozen_of_row w1 p 0 _ _ (h2.obj HO.out (by simpa using hne)); have H1 := Lib.hid h1; have H2 := Lib.hid h2; have H3 := Lib.hid h3; clear h1 h2 h3 hcell)
  go_end0
  exact ⟨rfl, _, Puts.mk' (l := l) (l' := l ++ m) HO.out hne H2.out (by simpa only [List.length_append] using H1.out) (by simpa only [List.length_append] using H3.out)⟩
/-- the bytes of a number of any width -/
def numB (z : Int) (n : Nat) : List UInt8 := if isWd z = true then by8 z.toNat n else []
theorem numB_length (z : Int) (n : Nat) : (numB z n).length ≤ 8 := by
  unfold numB
  split
  · rename_i h
    obtain ⟨wd, rfl, hw⟩ := isWd_of z h
    have := hw.le
    have e : ((wd : Nat) : Int).toNat = wd := by omega
    rw [e, by8_length]; omega
  · simp
theorem Num_any (B p : Nat) (v : Value) (l : List UInt8) (z : Int) (n : Nat) (w : World) (ho : w.heap[p]? = some (.cells #[v] 121)) (hown : w.ownsRow B 5 1 v l.length (l.map B8)) (hne : v.ownBlock ≠ some p) (hB : B ≤ w.heap.size)
    (hn : n < 18446744073709551616) (hroom : l.length ≤ 140737488351300) :
    Calls Tryd.prog 60 #[.pointer (some ⟨p, 0, none⟩), .int .i64 z, .int .u64 (U n)] w fun e w' => e = .returned (.tuple #[]) ∧ ∃ v', Puts B w w' p v v' (l ++ numB z n) := by
  cases hz : isWd z with
  | false =>
    have e : numB z n = [] := by unfold numB; rw [hz]; rfl
    rw [e]
    refine (Num_no p z _ w hz).mono ?_
    rintro x w' ⟨rfl, rfl⟩
    exact ⟨rfl, v, ho, by simpa using hown, Fr.refl _ _, .inl rfl⟩
  | true =>
    obtain ⟨wd, rfl, hw⟩ := isWd_of z hz
    have e : numB wd n = by8 wd n := by unfold numB; rw [if_pos hz]; rfl
    rw [e]
    exact Num_yes B p v l wd n w ho hown hne hB hw hn (by omega)
theorem refnum_any (z : Int) (n : Nat) (w : World) (hn : n < 18446744073709551616) :
    Calls Tryd.prog 65 #[.int .i64 z, .int .u64 (U n)] w fun e w' => ∃ v, e = .returned v ∧ Fresh w.heap.size w w' v (numB z n) := by
  cases hz : isWd z with
  | false =>
    have e : numB z n = [] := by unfold numB; rw [hz]; rfl
    rw [e]
    exact refnum_no z _ w hz
  | true =>
    obtain ⟨wd, rfl, hw⟩ := isWd_of z hz
    have e : numB wd n = by8 wd n := by unfold numB; rw [if_pos hz]; rfl
    rw [e]
    exact refnum_yes wd n w hw hn
theorem conv_any (a : Option Addr) (c : Nat) (l : List UInt8) (w : World) (hno : a = none → c = 0) (hb : Bytes w a l) :
    (convert 37 9 (.slice a l.length c)).run Tryd.prog w = .ok (.string ⟨l.toArray⟩) w := by
  cases a with
  | none =>
    have hl : l = [] := by
      rcases hb with h | ⟨_, _, h, _⟩
      · exact h
      · cases h
    subst hl
    show (convert 37 9 (.slice none 0 c)).run Tryd.prog w = _
    rw [run_convert_bytes_string w 37 9 5 none 0 c Tryd.underlying37 Tryd.underlying5 Tryd.underlying9]
    rfl
  | some ad =>
    refine run_convert_bytes_back w 37 9 5 ad c l Tryd.underlying37 Tryd.underlying5 Tryd.underlying9 ?_
    intro j hj
    obtain ⟨b, off, e, hc⟩ := hb.at (by omega)
    cases e
    rw [Addr.add_lit, hc j hj]
    have e1 : l.getD j 0 = l[j] := by simp [List.getD, hj]
    rw [e1]
    show some (Value.int .u8 (I8 l[j])) = _
    unfold I8
    rfl
theorem Sep.less {w0 w : World} {q : Nat} {ps : List Nat} {L : List (Value × List UInt8)} (h : Sep w0 w (q :: ps) L) : Sep w0 w ps L :=
  ⟨h.own, h.dis, fun x hx g hg hm => h.pne x hx g hg (List.mem_cons_of_mem _ hm), fun p hp => h.lo p (List.mem_cons_of_mem _ hp), h.fr⟩
theorem Sep.drop1 {w0 w : World} {ps : List Nat} {L : List (Value × List UInt8)} {x : Value × List UInt8} (h : Sep w0 w ps (x :: L)) : Sep w0 w ps L :=
  ⟨fun y hy => h.own y (List.mem_cons_of_mem _ hy), (List.pairwise_cons.1 h.dis).2, fun y hy => h.pne y (List.mem_cons_of_mem _ hy), h.lo, h.fr⟩
end Go.Proofs.YtlckhfjkdahfpaaDoor
