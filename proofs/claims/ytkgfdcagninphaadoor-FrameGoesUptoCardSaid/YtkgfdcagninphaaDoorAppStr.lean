/- append of a string onto a slice of bytes of the call's own: what it gives, and in which block. No program. -/
import Derived.Test.YtkgfdcagninphaaDoorApp
import Derived.Lib.AppendStr
namespace Go.Proofs.YtkgfdcagninphaaDoor
open Go.RowKit
section
variable {P : Program} (w : World)
theorem strCells_B8 (l : List UInt8) : Lib.strCells ⟨l.toArray⟩ = l.map B8 := by
  simp only [Lib.strCells]
  apply List.map_congr_left
  intro x _
  show Value.int .u8 _ = Value.int .u8 (I8 x)
  unfold I8
  rfl
theorem run_appStr (base : Nat) (t u ty e : TypeId) (i : TypeInfo) (ht : P.underlying t = some (.slice e)) (hu : P.underlying u = some .string) (hi : P.info? e = some i) (hz : i.zero = some (.int .u8 0))
    (hsize : i.size = 1) (hby : i.bytes = 1) (v : Value) (xs m : List UInt8) (hown : w.ownsRow base e 1 v xs.length (xs.map B8))
    (hroom : xs.length + m.length ≤ 140737488355328) (hbase : base ≤ w.heap.size) :
    ∃ v' w', (Builtin.append_ #[t, u] ty #[v, .string ⟨m.toArray⟩]).run P w = .ok v' w' ∧ w'.ownsRow base e 1 v' (xs ++ m).length ((xs ++ m).map B8) ∧ w.grownBy w' v.ownBlock ∧
      (v'.ownBlock = v.ownBlock ∨ ∃ g, v'.ownBlock = some g ∧ w.heap.size ≤ g) := by
  have hss : (⟨m.toArray⟩ : ByteArray).size = m.length := by simp [ByteArray.size]
  obtain ⟨s, hs⟩ : ∃ s : ByteArray, s = ⟨m.toArray⟩ := ⟨_, rfl⟩
  have hsc : Lib.strCells s = m.map B8 := by rw [hs]; exact strCells_B8 m
  rw [← hs] at hss ⊢
  obtain ⟨v', w', hr, hown', hgr, hnil⟩ := Lib.run_append_own_string (P := P) w base t u ty e i ht hu hi hz hsize hby v xs.length (xs.map B8) hown s (by unfold maxLen; omega) (by omega) hbase
  refine ⟨v', w', hr, ?_, hgr, ?_⟩
  · rw [List.length_append, ← hss, List.map_append, ← hsc]; exact hown'
  · rcases hown.2 with ⟨rfl, h0⟩ | ⟨g, cap, cur, rfl, hbg, hg, hnc, hcm, hcs, htake⟩
    · by_cases hm : s.size = 0
      · exact .inl (by rw [hnil.2 ⟨rfl, hm⟩])
      · have hr2 := run_append_nil_string (P := P) w t u ty e i (.int .u8 0) ht hu hi hz s (by omega) (by omega) (by rw [hby]; omega)
        rw [hr2] at hr
        simp only [Result.ok.injEq] at hr
        exact .inr ⟨w.heap.size, by rw [← hr.1]; rfl, Nat.le_refl _⟩
    · have hxl : (xs.map B8).length = xs.length := by simp
      have hcs' : cur.size = cap := by simpa using hcs
      by_cases hrm : xs.length + s.size ≤ cap
      · have hr2 := Lib.run_append_room_string (P := P) w t u ty e i ht hu hi hsize g xs.length cap cur hg s hrm (by omega)
        rw [hr2] at hr
        simp only [Result.ok.injEq] at hr
        exact .inl (by rw [← hr.1]; rfl)
      · have holds : ∀ j u, (xs.map B8)[j]? = some u → w.cell? ((⟨g, 0, none⟩ : Addr).add j) = some u := hown.cells (g := g) rfl
        have hr2 := Lib.run_append_grow_string (P := P) w t u ty e i (.int .u8 0) ht hu hi hz ⟨g, 0, none⟩ xs.length cap (xs.map B8) (by rw [hsize]; simp) holds s (by omega) (by omega) (by rw [hby]; exact growslice_fits (by omega) (by omega))
        rw [hr2] at hr
        simp only [Result.ok.injEq] at hr
        exact .inr ⟨w.heap.size, by rw [← hr.1]; rfl, Nat.le_refl _⟩
theorem wpList_appStr {ops : Array Oper} {rest : List Oper} {o : Oper} {a : Act} {Q : Exit → Act → World → Prop} (hgd : o.guard = none) (sl x : Operand) (t u : TypeId)
    (ho : o.op = .call { callee := .builtin .append, args := #[sl, x], argTypes := #[t, u] })
    (base : Nat) (e : TypeId) (ht : P.underlying t = some (.slice e)) (hu : P.underlying u = some .string) (hinfo : (P.info? e).map (fun i => (i.zero, i.size, i.bytes)) = some (some (.int .u8 0), 1, 1))
    (v : Value) (xs m : List UInt8) (hs : a.eval sl = v) (hown : w.ownsRow base e 1 v xs.length (xs.map B8)) (hx : a.eval x = .string ⟨m.toArray⟩)
    (hroom : xs.length + m.length ≤ 140737488355328) (hbase : base ≤ w.heap.size)
    (h : ∀ v' w', w'.ownsRow base e 1 v' (xs ++ m).length ((xs ++ m).map B8) → Fr v.ownBlock.toList w w' → (v'.ownBlock = v.ownBlock ∨ ∃ g, v'.ownBlock = some g ∧ w.heap.size ≤ g) → wpList P ops Q rest (a.put o.dst v') w') : wpList P ops Q (o :: rest) a w := by
  obtain ⟨i, hi, hz, hsz2, hby⟩ := info_parts hinfo
  refine wpList_plain hgd fun K hK => ?_
  obtain ⟨v', w', hr, h2, h3, h4⟩ := run_appStr (P := P) w base t u o.type e i ht hu hi hz hsz2 hby v xs m hown hroom hbase
  unfold Oper.wp execOp
  simp only [ho, resolve, invoke, builtin, Sem.run_bind, Sem.run_pure, Result.andThen_ok, List.map_toArray, List.map_cons, List.map_nil, hs, hx, hr]
  exact hK _ _ (h v' w' h2 (Fr.of_grown h3 _ fun k hk _ => by simp [hk]) h4)
end
end Go.Proofs.YtkgfdcagninphaaDoor
