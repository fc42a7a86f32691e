/- Frames: SameAll of a list of the call's own with one that was handed in. -/
import Derived.Test.YtkgfdcagninphaaDoorFrT
namespace Go.Proofs.YtkgfdcagninphaaDoor
open Go.RowKit
attribute [local go_sem ↓] Go.wp_at_zero Go.wp_at_succ
theorem frF_get (F : Nat → FV) : ∀ (n k : Nat), k < n → (frF F n)[k]? = some (UInt8.ofNat (F k).z.toNat, (F k).d)
  | n + 1, k, h => by
    show (frF F n ++ _)[k]? = _
    by_cases hk : k < n
    · rw [List.getElem?_append_left (by rw [frF_length]; exact hk)]
      exact frF_get F n k hk
    · obtain rfl : k = n := by omega
      rw [List.getElem?_append_right (by rw [frF_length]; exact Nat.le_refl _), frF_length]
      simp
set_option maxRecDepth 100000 in
set_option maxHeartbeats 1600000 in
theorem SameAllA {B n c : Nat} {v : Value} {X : List FI} {fa : Option Addr} {F : Nat → FV} (w : World) (hX : FrL w B v X) (hF : FrsA w fa n F) (hXY : X.map FI.fr = frF F n) (he : ∀ j, j < n → errP (F j).z (F j).d = 0) (hl : n ≤ 1048576) :
    Calls Tryd.prog 19 #[v, .slice fa n c] w fun e w' => e = .returned (.bool true) ∧ Fr [] w w' := by
  have hlen : X.length = n := by have := congrArg List.length hXY; rw [List.length_map, frF_length] at this; exact this
  obtain ⟨va, vc, rfl⟩ := own_sl hX.row
  rw [hlen]
  rw [hlen] at hX
  have HX := Lib.hid hX
  have HF := Lib.hid hF
  have HXY := Lib.hid hXY
  have HE := Lib.hid he
  have HLEN := Lib.hid hlen
  clear hX hF hXY hlen he
  go_enter Tryd.func19, Tryd.ntmps19
  go_wp2_with fail
  go_loopw [5] (fun i wr => ∃ k : Nat, k ≤ n ∧ i = .int .i64 k ∧ Fr [] w wr) (fun i _ => n - (intOf i).toNat)
  case atStart => exact ⟨0, by omega, rfl, Fr.refl _ _⟩
  case round =>
    obtain ⟨k, hk, rfl, hf⟩ := hrel
    by_cases hlt : k < n
    · obtain ⟨gv, rfl, _⟩ := own_pos (HLEN.out ▸ HX.out.row) (by omega)
      obtain ⟨gu, fo, rfl, c3, c4⟩ := (HF.out.keep hf).cell k hlt
      have hok := (HF.out.keep hf).ok k hlt
      have hltX : k < X.length := by rw [HLEN.out]; exact hlt
      obtain ⟨x, hx⟩ : ∃ x, x = X[k] := ⟨_, rfl⟩
      have hfr : x.fr = (UInt8.ofNat (F k).z.toNat, (F k).d) := by
        have h := congrArg (fun l => l[k]?) HXY.out
        simp only [List.getElem?_map, List.getElem?_eq_getElem hltX, Option.map_some] at h
        rw [frF_get F n k hlt, Option.some.injEq] at h
        rw [hx]; exact h
      have hzz := errP_0 (HE.out k hlt)
      have hxt : (F k).z = I8 x.t := by
        have h : x.t = UInt8.ofNat (F k).z.toNat := congrArg Prod.fst hfr
        rw [h, I8_of_nat _ (by omega)]; omega
      have hxd : (F k).d = x.d := (congrArg Prod.snd hfr).symm
      obtain ⟨gx1, gx2⟩ := fiCells_get X k hltX
      rw [← hx] at gx1 gx2
      have rX := OwnO.of (HX.out.keep hf).row
      have rX' : OwnO wr B 25 2 (.slice (some ⟨gv, 0, none⟩) X.length vc) X.length (fiCells X) := by rw [HLEN.out]; rw [HLEN.out] at rX; exact rX
      have c1 : wr.cell? ⟨gv, k * 2, none⟩ = some (.int .i64 (I8 x.t)) := by have h := (rX'.cell (k * 2) (by rw [fiCells_length]; omega)).1; rw [gx1, Nat.zero_add] at h; exact h
      have c2 : wr.cell? ⟨gv, k * 2 + 1, none⟩ = some (.slice x.a x.d.length x.c) := by have h := (rX'.cell (k * 2 + 1) (by rw [fiCells_length]; omega)).1; rw [gx2, Nat.zero_add] at h; exact h
      rw [hxt] at c3
      rw [hxd] at c4
      have ox := (HX.out.keep hf).dat x (by rw [hx]; exact List.getElem_mem _)
      obtain ⟨ya, hya⟩ : ∃ ya, ya = (F k).a := ⟨_, rfl⟩
      obtain ⟨yc, hyc⟩ : ∃ yc, yc = (F k).c := ⟨_, rfl⟩
      have hbn : ya = none → yc = 0 := by rw [hya, hyc]; exact hok.none
      have hby : Bytes wr ya x.d := by rw [hya, ← hxd]; exact hok.bytes
      rw [← hya, ← hyc] at c4
      have hS := Same_any (I8 x.t) (I8 x.t) x.a ya x.c yc x.d x.d wr.drew (spl_none ox) hbn ((own_by ox).1.keep ((Fr.refl [] wr).drew)) (hby.keep ((Fr.refl [] wr).drew))
      rw [beq_self_eq_true, beq_self_eq_true] at hS
      have HS := Lib.hid hS
      have HFW := Lib.hid hf
      have e1 : (k : Int) < (n : Int) := by omega
      have d1 : wr.drew.cell? ⟨gv, k * 2, none⟩ = some (.int .i64 (I8 x.t)) := c1
      have d2 : wr.drew.cell? ⟨gv, k * 2 + 1, none⟩ = some (.slice x.a x.d.length x.c) := c2
      have d3 : wr.drew.cell? ⟨gu, fo + k * 2, none⟩ = some (.int .i64 (I8 x.t)) := c3
      have d4 : wr.drew.cell? ⟨gu, fo + k * 2 + 1, none⟩ = some (.slice ya x.d.length yc) := c4
      clear hS hf hx hfr hzz hxt hxd gx1 gx2 rX rX' ox hok hya hyc hbn hby c1 c2 c3 c4
      go_upto_region 6 with fail
      go_region_held3 (fun w' => w'.cell? ⟨gv, k * 2, none⟩ = some (.int .i64 (I8 x.t)) ∧ w'.cell? ⟨gv, k * 2 + 1, none⟩ = some (.slice x.a x.d.length x.c) ∧ w'.cell? ⟨gu, fo + k * 2, none⟩ = some (.int .i64 (I8 x.t)) ∧ w'.cell? ⟨gu, fo + k * 2 + 1, none⟩ = some (.slice ya x.d.length yc))
        (first
          | with_reducible assumption
          | exact ⟨d1, d2, d3, d4⟩
          | exact ⟨hA.cell d1 (by simp), hA.cell d2 (by simp), hA.cell d3 (by simp), hA.cell d4 (by simp)⟩)
        (first
          | (go_at_call 16; (with_reducible refine HS.out.mono ?_); rintro e wA ⟨rfl, hA⟩))
      all_goals go_wp2
      all_goals go_roundw
      all_goals first
        | exact ⟨k + 1, by omega, by go_num, (HFW.out.drew).trans hA⟩
        | (simp [intOf] <;> omega)
    · have HF := Lib.hid hf
      clear hf
      go_wp2
      go_ret
      exact ⟨rfl, HF.out⟩
end Go.Proofs.YtkgfdcagninphaaDoor
