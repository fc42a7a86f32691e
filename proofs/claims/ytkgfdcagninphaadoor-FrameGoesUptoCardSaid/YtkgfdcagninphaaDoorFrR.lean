/- Frames: the walks of the document's Split and of SameAll. -/
import Derived.Test.YtkgfdcagninphaaDoorFrQ
namespace Go.Proofs.YtkgfdcagninphaaDoor
open Go.RowKit
attribute [local go_sem ↓] Go.wp_at_zero Go.wp_at_succ
set_option maxRecDepth 100000 in
set_option maxHeartbeats 1600000 in
theorem refSplit_any (ad : Option Addr) (c : Nat) (L : List UInt8) (w : World) (hl : L.length ≤ 39582418590000) (hc : L.length ≤ c) (hno : ad = none → c = 0) (hb : Bytes w ad L) :
    Calls Tryd.prog 18 #[.slice ad L.length c] w fun e w' => SplG w w' e L := by
  have HF := Lib.hid (refFrames_any ad c L w hl hc hno hb)
  clear hc hno hb
  go_enter Tryd.func18, Tryd.ntmps18
  go_wp2_with fail
  refine HF.out.mono ?_
  rintro e w1 ⟨v, X, rfl, hX, hXm, hf⟩
  obtain ⟨va, vc, rfl⟩ := own_sl hX.row
  have HX := Lib.hid hX
  have HXM := Lib.hid hXm
  have HFR := Lib.hid hf
  have hend := (run_end L).1
  obtain ⟨E, hE⟩ : ∃ E, E = (run L).2.2 := ⟨_, rfl⟩
  obtain ⟨q, hq⟩ : ∃ q, q = (run L).2.1 := ⟨_, rfl⟩
  have hspl : spl L = if E = 0 then (if q < L.length then ([], 10) else ((run L).1, 0)) else ([], E) := by rw [hE, hq]; rfl
  rw [← hE, ← hq]
  rw [← hq] at hend
  have HS := Lib.hid hspl
  clear hX hXm hf hE hq hspl HF
  by_cases h0 : E = 0
  · subst h0
    have HS2 := Lib.hid (HS.out.trans (if_pos rfl))
    clear HS
    by_cases h1 : q < L.length
    · have HS3 := Lib.hid (HS2.out.trans (if_pos h1))
      have hd : decide ((q : Int) < (L.length : Int)) = true := decide_eq_true (by omega)
      clear HS2
      go_wp2
      go_ret2
      refine ⟨.slice (some ⟨w1.heap.size, 0, none⟩) 0 0, [], by rw [HS3.out]; rfl, ?_, by rw [HS3.out]; rfl, HFR.out.alloc _⟩
      have h := FrL.empty w1
      exact ⟨own_base h.row HFR.out.size, fun _ h => (List.not_mem_nil h).elim, List.Pairwise.nil, fun _ h => (List.not_mem_nil h).elim⟩
    · have HS3 := Lib.hid (HS2.out.trans (if_neg h1))
      have hd : decide ((q : Int) < (L.length : Int)) = false := decide_eq_false (by omega)
      clear HS2
      go_wp2
      go_ret2
      exact ⟨_, X, by rw [HS3.out]; rfl, HX.out, by rw [HS3.out]; exact HXM.out, HFR.out⟩
  · have HS2 := Lib.hid (HS.out.trans (if_neg h0))
    have he : (E == 0) = false := by rw [beq_eq_false_iff_ne]; exact h0
    have he2 : (E != 0) = true := by rw [bne_iff_ne]; exact h0
    clear HS
    go_wp2
    go_ret2
    refine ⟨.slice (some ⟨w1.heap.size, 0, none⟩) 0 0, [], by rw [HS2.out]; rfl, ?_, by rw [HS2.out]; rfl, HFR.out.alloc _⟩
    have h := FrL.empty w1
    exact ⟨own_base h.row HFR.out.size, fun _ h => (List.not_mem_nil h).elim, List.Pairwise.nil, fun _ h => (List.not_mem_nil h).elim⟩
theorem fiCells_get : ∀ (X : List FI) (k : Nat) (h : k < X.length), (fiCells X)[k * 2]? = some (.int .i64 (I8 (X[k]'h).t)) ∧ (fiCells X)[k * 2 + 1]? = some (X[k]'h).v
  | x :: X, 0, _ => by rw [fiCells_cons]; exact ⟨rfl, rfl⟩
  | x :: X, k + 1, h => by
    have ih := fiCells_get X k (by simpa using h)
    rw [fiCells_cons, show (k + 1) * 2 = k * 2 + 1 + 1 by omega]
    simpa using ih
set_option maxRecDepth 100000 in
set_option maxHeartbeats 1600000 in
theorem SameAll_any {B C : Nat} {v u : Value} {X Y : List FI} (w : World) (hX : FrL w B v X) (hY : FrL w C u Y) (hXY : X.map FI.fr = Y.map FI.fr) (hl : X.length ≤ 4398046511000) :
    Calls Tryd.prog 19 #[v, u] w fun e w' => e = .returned (.bool true) ∧ Fr [] w w' := by
  have hlen : Y.length = X.length := by have := congrArg List.length hXY; simpa using this.symm
  obtain ⟨va, vc, rfl⟩ := own_sl hX.row
  obtain ⟨ua, uc, rfl⟩ := own_sl hY.row
  rw [hlen] at hY ⊢
  have HX := Lib.hid hX
  have HY := Lib.hid hY
  have HXY := Lib.hid hXY
  have HLEN := Lib.hid hlen
  clear hX hY hXY hlen
  go_enter Tryd.func19, Tryd.ntmps19
  go_wp2_with fail
  go_loopw [5] (fun i wr => ∃ k : Nat, k ≤ X.length ∧ i = .int .i64 k ∧ Fr [] w wr) (fun i _ => X.length - (intOf i).toNat)
  case atStart => exact ⟨0, by omega, rfl, Fr.refl _ _⟩
  case round =>
    obtain ⟨k, hk, rfl, hf⟩ := hrel
    by_cases hlt : k < X.length
    · obtain ⟨gv, rfl, _⟩ := own_pos HX.out.row (by omega)
      obtain ⟨gu, rfl, _⟩ := own_pos (HLEN.out ▸ HY.out.row) (by omega)
      have hltY : k < Y.length := by rw [HLEN.out]; exact hlt
      obtain ⟨x, hx⟩ : ∃ x, x = X[k] := ⟨_, rfl⟩
      obtain ⟨y, hy⟩ : ∃ y, y = Y[k] := ⟨_, rfl⟩
      have hfr : x.fr = y.fr := by
        have h := congrArg (fun l => l[k]?) HXY.out
        simp only [List.getElem?_map, List.getElem?_eq_getElem hlt, List.getElem?_eq_getElem hltY, Option.map_some, Option.some.injEq] at h
        rw [hx, hy]; exact h
      have hxt : y.t = x.t := (congrArg Prod.fst hfr).symm
      have hxd : y.d = x.d := (congrArg Prod.snd hfr).symm
      obtain ⟨gx1, gx2⟩ := fiCells_get X k hlt
      obtain ⟨gy1, gy2⟩ := fiCells_get Y k hltY
      rw [← hx] at gx1 gx2
      rw [← hy] at gy1 gy2
      have rX := OwnO.of (HX.out.keep hf).row
      have rY := OwnO.of (HY.out.keep hf).row
      have c1 : wr.cell? ⟨gv, k * 2, none⟩ = some (.int .i64 (I8 x.t)) := by have h := (rX.cell (k * 2) (by rw [fiCells_length]; omega)).1; rw [gx1, Nat.zero_add] at h; exact h
      have c2 : wr.cell? ⟨gv, k * 2 + 1, none⟩ = some (.slice x.a x.d.length x.c) := by have h := (rX.cell (k * 2 + 1) (by rw [fiCells_length]; omega)).1; rw [gx2, Nat.zero_add] at h; exact h
      have rY' : OwnO wr C 25 2 (.slice (some ⟨gu, 0, none⟩) Y.length uc) Y.length (fiCells Y) := by rw [HLEN.out]; rw [HLEN.out] at rY; exact rY
      have c3 : wr.cell? ⟨gu, k * 2, none⟩ = some (.int .i64 (I8 x.t)) := by have h := (rY'.cell (k * 2) (by rw [fiCells_length]; omega)).1; rw [gy1, Nat.zero_add, hxt] at h; exact h
      have c4 : wr.cell? ⟨gu, k * 2 + 1, none⟩ = some (.slice y.a x.d.length y.c) := by have h := (rY'.cell (k * 2 + 1) (by rw [fiCells_length]; omega)).1; rw [gy2, Nat.zero_add] at h; rw [← hxd]; exact h
      have ox := (HX.out.keep hf).dat x (by rw [hx]; exact List.getElem_mem _)
      have oy := (HY.out.keep hf).dat y (by rw [hy]; exact List.getElem_mem _)
      rw [hxd] at oy
      have hS := Same_any (I8 x.t) (I8 x.t) x.a y.a x.c y.c x.d x.d wr.drew (spl_none ox) (spl_none (show wr.ownsRow C _ 1 (.slice y.a y.d.length y.c) x.d.length _ from oy)) ((own_by ox).1.keep ((Fr.refl [] wr).drew)) ((own_by (show wr.ownsRow C _ 1 (.slice y.a y.d.length y.c) x.d.length _ from oy)).1.keep ((Fr.refl [] wr).drew))
      rw [beq_self_eq_true, beq_self_eq_true] at hS
      have HS := Lib.hid hS
      have HF := Lib.hid hf
      have e1 : (k : Int) < (X.length : Int) := by omega
      have d1 : wr.drew.cell? ⟨gv, k * 2, none⟩ = some (.int .i64 (I8 x.t)) := c1
      have d2 : wr.drew.cell? ⟨gv, k * 2 + 1, none⟩ = some (.slice x.a x.d.length x.c) := c2
      have d3 : wr.drew.cell? ⟨gu, k * 2, none⟩ = some (.int .i64 (I8 x.t)) := c3
      have d4 : wr.drew.cell? ⟨gu, k * 2 + 1, none⟩ = some (.slice y.a x.d.length y.c) := c4
      clear hS hf hx hy hfr hxt hxd gx1 gx2 gy1 gy2 rX rY rY' ox oy
      go_upto_region 6 with fail
      go_region_held3 (fun w' => w'.cell? ⟨gv, k * 2, none⟩ = some (.int .i64 (I8 x.t)) ∧ w'.cell? ⟨gv, k * 2 + 1, none⟩ = some (.slice x.a x.d.length x.c) ∧ w'.cell? ⟨gu, k * 2, none⟩ = some (.int .i64 (I8 x.t)) ∧ w'.cell? ⟨gu, k * 2 + 1, none⟩ = some (.slice y.a x.d.length y.c))
        (first
          | with_reducible assumption
          | exact ⟨d1, d2, d3, d4⟩
          | exact ⟨hA.cell d1 (by simp), hA.cell d2 (by simp), hA.cell d3 (by simp), hA.cell d4 (by simp)⟩)
        (first
          | (go_at_call 16; (with_reducible refine HS.out.mono ?_); rintro e wA ⟨rfl, hA⟩))
      all_goals go_wp2
      all_goals go_roundw
      all_goals first
        | exact ⟨k + 1, by omega, by go_num, (HF.out.drew).trans hA⟩
        | (simp [intOf] <;> omega)
    · have HF := Lib.hid hf
      clear hf
      go_wp2
      go_ret
      exact ⟨rfl, HF.out⟩
end Go.Proofs.YtkgfdcagninphaaDoor
