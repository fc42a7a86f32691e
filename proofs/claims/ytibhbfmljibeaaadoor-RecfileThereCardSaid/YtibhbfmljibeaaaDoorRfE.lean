/- Record files: Alloc. -/
import Derived.Test.YtibhbfmljibeaaaDoorRfD
namespace Go.Proofs.YtibhbfmljibeaaaDoor
open Go.RowKit
attribute [local go_sem ↓] Go.wp_at_zero Go.wp_at_succ
/-- the state behind Alloc's search -/
def RFS.toLow (s : RFS) (k : Nat) : RFS := { s with low := k }
theorem RFS.Ok.toLow {s : RFS} (h : s.Ok) {k : Nat} (hk : k ≤ lowest s.R) : (s.toLow k).Ok := ⟨h.kd, h.vr, h.lo, h.hi, h.len, h.dat, fun i hi => lowest_used s.R i (Nat.lt_of_lt_of_le hi hk)⟩
def alE (s : RFS) : Int := if 65536 ≤ lowest s.R then 5 else 0
def alI (s : RFS) : Nat := if 65536 ≤ lowest s.R then 0 else lowest s.R
def alS (s : RFS) : RFS := if 65536 ≤ lowest s.R then s.toLow (lowest s.R) else (s.toLow (lowest s.R)).put (lowest s.R) (zs (s.sz - 1))
theorem RFS.Ok.low_lowest {s : RFS} (h : s.Ok) : s.low ≤ lowest s.R := by
  by_cases hle : s.low ≤ lowest s.R
  · exact hle
  · obtain ⟨d, hd⟩ := h.low (lowest s.R) (by omega)
    have := lowest_free s.R
    rw [List.getD_eq_getElem?_getD, hd] at this
    cases this
def lowAt (p : Nat) (w : World) : Nat := match w.cell? ⟨p, 5, none⟩ with | some (.int _ k) => k.toNat | _ => 0
theorem lowAt_eq {p k : Nat} {w : World} (h : w.cell? ⟨p, 5, none⟩ = some (.int .i64 (k : Int))) : lowAt p w = k := by unfold lowAt; rw [h]; simp
theorem RFH.low {w : World} {B p : Nat} {v : Value} {X : List LI} {s : RFS} (h : RFH w B p v X s) {k : Nat} (hk : k ≤ lowest s.R) : RFH (w.setCell ⟨p, 5, none⟩ (.int .i64 (k : Int))) B p v X (s.toLow k) := by
  have hf : Fr [p] w (w.setCell ⟨p, 5, none⟩ (.int .i64 (k : Int))) := (Fr.refl [p] w).setCell (by simp) _
  refine ⟨?_, h.recs.fr hf (fun i hi hm => ?_), h.opt, h.ok.toLow hk, h.base⟩
  · rw [heap_setCell_same w p 5 _ _ _ h.obj]
    rfl
  · simp at hm
    subst hm
    rcases llB_cases hi with h1 | ⟨x, hx, h1⟩
    · exact h.ne h1
    · exact own_ne (h.recs.dat x hx) h.obj (by decide) h1
theorem own_mk (w : World) (n : Nat) (hn : n ≤ 1000000) : (w.alloc (.cells ((zs n).map B8).toArray 5)).ownsRow w.heap.size 5 1 (.slice (some ⟨w.heap.size, 0, none⟩) n n) n ((zs n).map B8) := by
  have := own_made w (zs n) (by rw [zs_length]; exact hn)
  rwa [zs_length] at this
set_option maxRecDepth 100000 in
set_option maxHeartbeats 1600000 in
theorem Alloc_F (B : Nat) (bs : List Nat) (w : World) (p : Nat) (s : RFS) (h : RF B bs w p s) :
    Calls Tryd.prog 16 #[.pointer (some ⟨p, 0, none⟩)] w fun e w' => e = .returned (.tuple #[.int .i64 (alI s), .int .i64 (alE s)]) ∧ ∃ bs', RF B bs' w' p (alS s) ∧ Stp bs w bs' w' := by
  have hB := h.own
  obtain ⟨v, X, h, rfl⟩ := h
  obtain ⟨a, c, rfl, -⟩ := h.recs.sl
  have hlen := h.len
  have hok := h.ok
  have hlo := hok.lo
  have hhi := hok.hi
  have hXl : X.length ≤ 65536 := by rw [hlen]; exact hok.len
  have hll := hok.low_lowest
  have hlb : lowest s.R ≤ X.length := by rw [hlen]; exact lowest_le s.R
  have HLEN := Lib.hid hlen
  have H := Lib.hid h
  clear h hok hlen
  go_enter Tryd.func16, Tryd.ntmps16
  go_wp2_with fail
  go_loopw [] (fun wr => ∃ k : Nat, s.low ≤ k ∧ k ≤ lowest s.R ∧ RFH wr B p (.slice a X.length c) X (s.toLow k) ∧ Fr [p] w wr) (fun wr => lowest s.R - lowAt p wr)
  case atStart => exact ⟨s.low, Nat.le_refl _, hll, H.out, Fr.refl _ _⟩
  case round =>
    obtain ⟨k, hk1, hk2, hr, hf⟩ := hrel
    obtain ⟨x0, x1, x2, x3, x4, x5⟩ := six hr.obj
    have hz5 : wr.frozen? ⟨p, 5, none⟩ = false := frozen_of_row _ _ 5 _ _ hr.obj
    replace x5 : wr.cell? ⟨p, 5, none⟩ = some (.int .i64 (k : Int)) := x5
    replace x2 : wr.cell? ⟨p, 2, none⟩ = some (.int .i64 (s.sz : Int)) := x2
    have hla := lowAt_eq x5
    have qN := neq_nil8
    by_cases hlt : k < lowest s.R
    · obtain ⟨d, hd⟩ := lowest_used s.R k hlt
      obtain ⟨g, rfl, -, -⟩ := hr.recs.pos (by omega)
      obtain ⟨gd, cd, hkX, hc, -, -⟩ := hr.at (s := s.toLow k) hd
      have hki : (k : Int) < (X.length : Int) := by omega
      have hki0 : (0 : Int) ≤ (k : Int) := by omega
      have HR := Lib.hid hr
      have HFR := Lib.hid hf
      have HLA := Lib.hid hla
      clear hr hf hd hla
      go_wp2_with fail
      go_quiet (fail)
      go_wp2
      have hr1 := HR.out.keep ((Fr.refl [] wr).drewN nq)
      have hr2 := hr1.low (k := k + 1) (show k + 1 ≤ lowest s.R by omega)
      rw [show ((k : Int) + 1) = ((k + 1 : Nat) : Int) by omega]
      have hl2 : lowAt p ((wr.drewN nq).setCell ⟨p, 5, none⟩ (.int .i64 ((k + 1 : Nat) : Int))) = k + 1 := lowAt_eq (k := k + 1) (six hr2.obj).2.2.2.2.2
      have hla := HLA.out
      have hf2 := (HFR.out.drewN nq).setCell (p := ⟨p, 5, none⟩) (by intro _; simp) (.int .i64 ((k + 1 : Nat) : Int))
      refine ⟨⟨k + 1, by omega, by omega, hr2, hf2⟩, ?_⟩
      rw [hla, hl2]
      omega
    · obtain rfl : k = lowest s.R := by omega
      have hfree := lowest_free s.R
      have HR := Lib.hid hr
      have HFR := Lib.hid hf
      obtain ⟨K, hK⟩ : ∃ K, K = lowest s.R := ⟨_, rfl⟩
      rw [← hK] at x5 HR hfree hlb
      have HK := Lib.hid hK
      have hx : K = X.length ∨ ∃ g, a = some ⟨g, 0, none⟩ ∧ K < X.length ∧ wr.cell? ⟨g, K, none⟩ = some (.slice none 0 0) := by
        by_cases hKl : K < X.length
        · right
          cases a with
          | none => exact absurd hr.recs.row.1 (by
              rcases hr.recs.row.2 with ⟨e, h0⟩ | ⟨_, _, _, e, _⟩
              · omega
              · cases e)
          | some ad =>
            obtain ⟨g, e, -, -⟩ := hr.recs.pos (by omega)
            cases e
            refine ⟨g, rfl, hKl, ?_⟩
            rw [(hr.recs.cell hKl).1]
            have h1 : X[K].o = none := by
              have h2 := hfree
              have h3 : X.map LI.o = s.R := hr.opt
              rw [← h3, List.getD_eq_getElem?_getD, List.getElem?_map, List.getElem?_eq_getElem hKl] at h2
              exact h2
            have h4 : X[K].a = none := by
              cases ha : X[K].a with
              | none => rfl
              | some ad => unfold LI.o at h1; rw [ha] at h1; cases h1
            rw [hr.recs.isNil (List.getElem_mem hKl) h4]
            rfl
        · left; omega
      clear hr hf hla hfree hK hk1 hk2 hlt
      rcases hx with hKX | ⟨g, rfl, hKX, hc⟩
      · have hd : decide ((K : Int) < (X.length : Int)) = false := decide_eq_false (by omega)
        go_wp2_with fail
        go_quiet (fail)
        obtain ⟨W, hW⟩ : ∃ W, W = wr.drewN nq := ⟨_, rfl⟩
        rw [← hW]
        have hfw : Fr [] wr W := by rw [hW]; exact (Fr.refl [] wr).drewN nq
        have HRW := Lib.hid (HR.out.keep hfw)
        have HFW := Lib.hid (HFR.out.trans (hfw.mono (by simp)))
        have y5 := hfw.cell x5 (by simp)
        have y2 := hfw.cell x2 (by simp)
        have hXK : K ≤ 65536 := by omega
        clear hW hfw x5 x2 hd hz5 qN x0 x1 x3 x4 hKX hlb
        by_cases hb : 65536 ≤ K
        · have hbi : (65536 : Int) ≤ (K : Int) := by omega
          have HA : Hid (alI s = 0 ∧ alE s = 5 ∧ alS s = s.toLow K) := Lib.hid (by
            have h := HK.out
            rw [h] at hb
            exact ⟨if_pos hb, if_pos hb, by unfold alS; rw [if_pos hb, h]⟩)
          clear hb hXK
          go_wp2
          go_ret2
          obtain ⟨g1, g2, g3⟩ := HA.out
          refine ⟨by rw [g1, g2]; rfl, _, by rw [g3]; exact ⟨_, _, HRW.out, rfl⟩, ?_, fun i hi => .inl hi⟩
          exact HFW.out.mono (by intro i hi _; simp at hi; subst hi; exact List.mem_cons_self)
        · have hbi : ¬ (65536 : Int) ≤ (K : Int) := by omega
          have HA : Hid (alI s = K ∧ alE s = 0 ∧ alS s = (s.toLow K).put K (zs (s.sz - 1))) := Lib.hid (by
            have h := HK.out
            rw [h] at hb ⊢
            exact ⟨if_neg hb, if_neg hb, by unfold alS; rw [if_neg hb]⟩)
          obtain ⟨n, hn⟩ : ∃ n, n = s.sz - 1 := ⟨_, rfl⟩
          have e1 : IntKind.i64.wrap ((s.sz : Int) - 1) = (n : Int) := by rw [IntWalk.i64_in _ (by omega)]; omega
          have hmk := make8 n (by omega)
          have HSET : Hid (∀ W1 cap, Fr [] W W1 → W1.ownsRow W.heap.size 5 1 (.slice (some ⟨W.heap.size, 0, none⟩) n cap) n ((zs n).map B8) → Calls Tryd.prog 41 #[.pointer (some ⟨p, 0, none⟩), .int .i64 K, .slice (some ⟨W.heap.size, 0, none⟩) n cap] W1 fun e w' => (∃ v, e = .returned v) ∧ (∃ bs', RF B bs' w' p ((s.toLow K).put K (zs n)) ∧ Stp (rfB p (.slice a X.length c) X) w bs' w') ∧ w'.cell? ⟨p, 5, none⟩ = some (.int .i64 (K : Int))) := Lib.hid fun W1 cap hw1 ho1 => by
            have hBW : B ≤ W.heap.size := by have := HFW.out.size; omega
            have ho2 : W1.ownsRow B 5 1 (LI.v ⟨some ⟨W.heap.size, 0, none⟩, cap, zs n⟩) (zs n).length ((zs n).map B8) := by
              rw [zs_length]; unfold LI.v; rw [zs_length]; exact own_base ho1 hBW
            have h := set_F B p W1 (.slice a X.length c) X (s.toLow K) K ⟨some ⟨W.heap.size, 0, none⟩, cap, zs n⟩ (HRW.out.keep hw1) (by omega) (by have := hw1.size; omega) ho2 rfl (by rw [zs_length]; show n + 1 = s.sz; omega) (by
              intro i hi hm
              have e : W.heap.size = i := by simpa [LI.v, Value.ownBlock] using hi
              subst e
              have := (HRW.out.lt _ hm).2
              omega)
            rw [show LI.v ⟨some ⟨W.heap.size, 0, none⟩, cap, zs n⟩ = .slice (some ⟨W.heap.size, 0, none⟩) n cap by unfold LI.v; rw [zs_length]] at h
            refine h.mono ?_
            rintro e w' ⟨hv, bs', h1, h2, h3⟩
            refine ⟨hv, ⟨bs', h1, ?_, ?_⟩, ?_⟩
            · refine ((HFW.out.mono ?_).trans (hw1.mono (by simp))).next h2 fun i hi _ => hi
              intro i hi _
              simp at hi
              subst hi
              exact List.mem_cons_self
            · intro i hi
              rcases h3 i hi with h | h | h
              · exact .inl h
              · have := hw1.size; have := HFW.out.size; exact .inr (by omega)
              · have e : W.heap.size = i := by simpa [LI.v, Value.ownBlock] using h
                subst e
                exact .inr HFW.out.size
            · obtain ⟨v2, X2, hr2, _⟩ := h1
              exact (six hr2.obj).2.2.2.2.2
          have HN := Lib.hid hn
          have HNB : Hid (n ≤ 1000000) := Lib.hid (by omega)
          clear hb hn HR HFR hXK
          go_upto_region 5 with fail
          go_region_held3 (fun w' => w'.cell? ⟨p, 5, none⟩ = some (.int .i64 (K : Int)) ∧ w'.cell? ⟨p, 2, none⟩ = some (.int .i64 (s.sz : Int)))
            (first
              | with_reducible assumption
              | exact ⟨y5, y2⟩
              | exact ⟨((Fr.refl [] W).alloc _).cell y5 (by simp), ((Fr.refl [] W).alloc _).cell y2 (by simp)⟩
              | exact ⟨hA5, hA2⟩)
            (first
              | (go_at_call 41; (refine (HSET.out _ n (((Fr.refl [] W).alloc _).drew) ?_).mono ?_); (exact own_mk W n HNB.out); rintro e wA ⟨⟨vA, rfl⟩, ⟨bs', hA1, hA3⟩, hA5⟩; have hA2 : wA.cell? ⟨p, 2, none⟩ = some (.int .i64 (s.sz : Int)) := (by obtain ⟨v2, X2, hr2, _⟩ := hA1; exact (six hr2.obj).2.2.1)))
          all_goals
            have HA1 := Lib.hid hA1
            have HA3 := Lib.hid hA3
            clear hA1 hA3 hmk
            go_wp2
            go_ret2
            obtain ⟨g1, g2, g3⟩ := HA.out
            refine ⟨by rw [g1, g2]; rfl, bs', ?_, HA3.out⟩
            have h := HA1.out
            rw [HN.out] at h
            rw [g3]
            exact h
      · have hd : decide ((K : Int) < (X.length : Int)) = true := decide_eq_true (by omega)
        have hki : (K : Int) < (X.length : Int) := by omega
        have hki0 : (0 : Int) ≤ (K : Int) := by omega
        go_wp2_with fail
        go_quiet (fail)
        clear hki hki0 hc
        obtain ⟨W, hW⟩ : ∃ W, W = wr.drewN nq := ⟨_, rfl⟩
        rw [← hW]
        have hfw : Fr [] wr W := by rw [hW]; exact (Fr.refl [] wr).drewN nq
        have HRW := Lib.hid (HR.out.keep hfw)
        have HFW := Lib.hid (HFR.out.trans (hfw.mono (by simp)))
        have y5 := hfw.cell x5 (by simp)
        have y2 := hfw.cell x2 (by simp)
        have hXK : K ≤ 65536 := by omega
        clear hW hfw x5 x2 hd hz5 qN x0 x1 x3 x4 hKX hlb
        by_cases hb : 65536 ≤ K
        · have hbi : (65536 : Int) ≤ (K : Int) := by omega
          have HA : Hid (alI s = 0 ∧ alE s = 5 ∧ alS s = s.toLow K) := Lib.hid (by
            have h := HK.out
            rw [h] at hb
            exact ⟨if_pos hb, if_pos hb, by unfold alS; rw [if_pos hb, h]⟩)
          clear hb hXK
          go_wp2
          go_ret2
          obtain ⟨g1, g2, g3⟩ := HA.out
          refine ⟨by rw [g1, g2]; rfl, _, by rw [g3]; exact ⟨_, _, HRW.out, rfl⟩, ?_, fun i hi => .inl hi⟩
          exact HFW.out.mono (by intro i hi _; simp at hi; subst hi; exact List.mem_cons_self)
        · have hbi : ¬ (65536 : Int) ≤ (K : Int) := by omega
          have HA : Hid (alI s = K ∧ alE s = 0 ∧ alS s = (s.toLow K).put K (zs (s.sz - 1))) := Lib.hid (by
            have h := HK.out
            rw [h] at hb ⊢
            exact ⟨if_neg hb, if_neg hb, by unfold alS; rw [if_neg hb]⟩)
          obtain ⟨n, hn⟩ : ∃ n, n = s.sz - 1 := ⟨_, rfl⟩
          have e1 : IntKind.i64.wrap ((s.sz : Int) - 1) = (n : Int) := by rw [IntWalk.i64_in _ (by omega)]; omega
          have hmk := make8 n (by omega)
          have HSET : Hid (∀ W1 cap, Fr [] W W1 → W1.ownsRow W.heap.size 5 1 (.slice (some ⟨W.heap.size, 0, none⟩) n cap) n ((zs n).map B8) → Calls Tryd.prog 41 #[.pointer (some ⟨p, 0, none⟩), .int .i64 K, .slice (some ⟨W.heap.size, 0, none⟩) n cap] W1 fun e w' => (∃ v, e = .returned v) ∧ (∃ bs', RF B bs' w' p ((s.toLow K).put K (zs n)) ∧ Stp (rfB p (.slice (some ⟨g, 0, none⟩) X.length c) X) w bs' w') ∧ w'.cell? ⟨p, 5, none⟩ = some (.int .i64 (K : Int))) := Lib.hid fun W1 cap hw1 ho1 => by
            have hBW : B ≤ W.heap.size := by have := HFW.out.size; omega
            have ho2 : W1.ownsRow B 5 1 (LI.v ⟨some ⟨W.heap.size, 0, none⟩, cap, zs n⟩) (zs n).length ((zs n).map B8) := by
              rw [zs_length]; unfold LI.v; rw [zs_length]; exact own_base ho1 hBW
            have h := set_F B p W1 (.slice (some ⟨g, 0, none⟩) X.length c) X (s.toLow K) K ⟨some ⟨W.heap.size, 0, none⟩, cap, zs n⟩ (HRW.out.keep hw1) (by omega) (by have := hw1.size; omega) ho2 rfl (by rw [zs_length]; show n + 1 = s.sz; omega) (by
              intro i hi hm
              have e : W.heap.size = i := by simpa [LI.v, Value.ownBlock] using hi
              subst e
              have := (HRW.out.lt _ hm).2
              omega)
            rw [show LI.v ⟨some ⟨W.heap.size, 0, none⟩, cap, zs n⟩ = .slice (some ⟨W.heap.size, 0, none⟩) n cap by unfold LI.v; rw [zs_length]] at h
            refine h.mono ?_
            rintro e w' ⟨hv, bs', h1, h2, h3⟩
            refine ⟨hv, ⟨bs', h1, ?_, ?_⟩, ?_⟩
            · refine ((HFW.out.mono ?_).trans (hw1.mono (by simp))).next h2 fun i hi _ => hi
              intro i hi _
              simp at hi
              subst hi
              exact List.mem_cons_self
            · intro i hi
              rcases h3 i hi with h | h | h
              · exact .inl h
              · have := hw1.size; have := HFW.out.size; exact .inr (by omega)
              · have e : W.heap.size = i := by simpa [LI.v, Value.ownBlock] using h
                subst e
                exact .inr HFW.out.size
            · obtain ⟨v2, X2, hr2, _⟩ := h1
              exact (six hr2.obj).2.2.2.2.2
          have HN := Lib.hid hn
          have HNB : Hid (n ≤ 1000000) := Lib.hid (by omega)
          clear hb hn HR HFR hXK
          go_upto_region 5 with fail
          go_region_held3 (fun w' => w'.cell? ⟨p, 5, none⟩ = some (.int .i64 (K : Int)) ∧ w'.cell? ⟨p, 2, none⟩ = some (.int .i64 (s.sz : Int)))
            (first
              | with_reducible assumption
              | exact ⟨y5, y2⟩
              | exact ⟨((Fr.refl [] W).alloc _).cell y5 (by simp), ((Fr.refl [] W).alloc _).cell y2 (by simp)⟩
              | exact ⟨hA5, hA2⟩)
            (first
              | (go_at_call 41; (refine (HSET.out _ n (((Fr.refl [] W).alloc _).drew) ?_).mono ?_); (exact own_mk W n HNB.out); rintro e wA ⟨⟨vA, rfl⟩, ⟨bs', hA1, hA3⟩, hA5⟩; have hA2 : wA.cell? ⟨p, 2, none⟩ = some (.int .i64 (s.sz : Int)) := (by obtain ⟨v2, X2, hr2, _⟩ := hA1; exact (six hr2.obj).2.2.1)))
          all_goals
            have HA1 := Lib.hid hA1
            have HA3 := Lib.hid hA3
            clear hA1 hA3 hmk
            go_wp2
            go_ret2
            obtain ⟨g1, g2, g3⟩ := HA.out
            refine ⟨by rw [g1, g2]; rfl, bs', ?_, HA3.out⟩
            have h := HA1.out
            rw [HN.out] at h
            rw [g3]
            exact h
end Go.Proofs.YtibhbfmljibeaaaDoor
