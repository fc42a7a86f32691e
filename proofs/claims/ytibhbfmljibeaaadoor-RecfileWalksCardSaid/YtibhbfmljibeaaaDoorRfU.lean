/- Record files: alike, spoil; RecfileNews. -/
import Derived.Test.YtibhbfmljibeaaaDoorMfF
import Derived.Test.YtibhbfmljibeaaaDoorRfT
namespace Go.Proofs.YtibhbfmljibeaaaDoor
open Go.RowKit
attribute [local go_sem ↓] Go.wp_at_zero Go.wp_at_succ
/-- the document's file, whatever 'low' is -/
theorem MF.low {B p : Nat} {bs : List Nat} {w : World} {s t : RFS} (h : MF B bs w p s) (ht : t.Ok) (e1 : t.kd = s.kd) (e2 : t.vr = s.vr) (e3 : t.sz = s.sz) (e4 : t.R = s.R) : MF B bs w p t := by
  obtain ⟨v, X, h, rfl⟩ := h
  exact ⟨v, X, ⟨by rw [e1, e2, e3]; exact h.obj, h.recs, by rw [e3, e4]; exact h.opt, ht, h.base⟩, rfl⟩
set_option maxRecDepth 100000 in
set_option maxHeartbeats 1600000 in
theorem alike_any (B C : Nat) (bs cs : List Nat) (w : World) (p q : Nat) (s : RFS) (h : RF B bs w p s) (h' : MF C cs w q s) :
    Calls Tryd.prog 25 #[.pointer (some ⟨p, 0, none⟩), .pointer (some ⟨q, 0, none⟩)] w fun e w' => e = .returned (.bool true) ∧ Fr [] w w' := by
  obtain ⟨v, X, hh, -⟩ := id h'
  obtain ⟨x0, x1, x2, x3⟩ := four hh.obj
  obtain ⟨a, c, rfl, -⟩ := hh.recs.sl
  rw [hh.len] at x3
  have hl : liveN s.R ≤ s.R.length := liveN_le _
  have hl2 := h.ok.len
  have HR := Lib.hid h
  have HM := Lib.hid h'
  clear h h' hh
  go_enter Tryd.func25, Tryd.ntmps25
  go_upto_region 1 with fail
  go_quiet (first
    | (go_at_call 48; exact Calls.quiet_of_same ((Kind_F B bs _ p s (HR.out.keep ((Fr.refl [] w).drewN _))).mono fun _ _ h => ⟨h.1, h.2.symm⟩))
    | (go_at_call 49; exact Calls.quiet_of_same ((Version_F B bs _ p s (HR.out.keep ((Fr.refl [] w).drewN _))).mono fun _ _ h => ⟨h.1, h.2.symm⟩))
    | (go_at_call 23; exact Calls.quiet_of_same ((Size_F B bs _ p s (HR.out.keep ((Fr.refl [] w).drewN _))).mono fun _ _ h => ⟨h.1, h.2.symm⟩))
    | (go_at_call 22; exact Calls.quiet_of_same ((Count_F B bs _ p s (HR.out.keep ((Fr.refl [] w).drewN _))).mono fun _ _ h => ⟨h.1, h.2.symm⟩))
    | (go_at_call 15; exact Calls.quiet_of_same ((Live_F B bs _ p s (HR.out.keep ((Fr.refl [] w).drewN _))).mono fun _ _ h => ⟨h.1, h.2.symm⟩))
    | (go_at_call 50; exact Calls.quiet_of_same ((Live9 C cs _ q s (HM.out.keep ((Fr.refl [] w).drewN _))).mono fun _ _ h => ⟨h.1, h.2.symm⟩)))
  go_wp2
  go_ret
  exact ⟨rfl, (Fr.refl [] w).drewN nq⟩
set_option maxHeartbeats 1600000 in
theorem spoilF_any (w : World) (B : Nat) (a : Option Addr) (n c : Nat) (h : OwnB w B (.slice a n c) n) (hn : n ≤ 140737488351300) (hB : B ≤ w.heap.size) :
    Calls Tryd.prog 28 #[.slice a n c] w fun e w' => (∃ v, e = .returned v) ∧ Fr (Value.slice a n c).ownBlock.toList w w' := by
  obtain ⟨S, hS⟩ : ∃ S, S = (Value.slice a n c).ownBlock.toList := ⟨_, rfl⟩
  rw [← hS]
  have HS := Lib.hid hS
  have HO := Lib.hid h
  have HBW := Lib.hid hB
  have hone : ∀ W : World, Bytes (W.alloc (.cells #[.int .u8 238] 5)) (some ⟨W.heap.size, 0, none⟩) [238] := fun W => by
    have h := Bytes.one (w := W) (g := W.heap.size) (t := 5) (fr := (0, 0)) 238 rfl
    rw [show I8 238 = 238 by decide +kernel] at h
    exact h
  have HONE := Lib.hid hone
  clear h hS hB hone
  go_enter Tryd.func28, Tryd.ntmps28
  go_wp2_with fail
  go_loopw [6] (fun i wr => ∃ k : Nat, k ≤ n ∧ i = .int .i64 k ∧ Fr S w wr ∧ OwnB wr B (.slice a n c) n) (fun i _ => n - (intOf i).toNat)
  case atStart => exact ⟨0, by omega, rfl, Fr.refl _ _, HO.out⟩
  case round =>
    obtain ⟨k, hk, rfl, hf, ho⟩ := hrel
    have HF := Lib.hid hf
    have HOW := Lib.hid ho
    clear hf ho
    by_cases hlt : k < n
    · obtain ⟨g, rfl, -, -⟩ := HOW.out.addr (by omega)
      obtain ⟨⟨y, hy⟩, hz⟩ := HOW.out.cell hlt
      have hki : (k : Int) < (n : Int) := by omega
      have hk0 : (0 : Int) ≤ (k : Int) := by omega
      go_wp2
      go_roundw
      case rel => exact ⟨k + 1, by omega, by go_num, HF.out.setCell (by intro _; rw [HS.out]; simp [Value.ownBlock]) _, HOW.out.setN k 238 (by decide)⟩
      case measure => simp [intOf] <;> omega
    · obtain rfl : k = n := by omega
      go_wp2_with fail
      obtain ⟨W0, hW0⟩ : ∃ W0 : World, W0 = wr := ⟨_, rfl⟩
      go_loopw [0, 3] (fun v i wr => ∃ j : Nat, j ≤ 16 ∧ i = .int .i64 j ∧ Fr S w wr ∧ OwnB wr B v (k + j) ∧ ∀ g, v.ownBlock = some g → g ∈ S ∨ w.heap.size ≤ g) (fun _ i _ => 16 - (intOf i).toNat)
      case atStart => exact ⟨0, by omega, rfl, HF.out, HOW.out, fun g hg => .inl (by rw [HS.out]; simpa using hg)⟩
      case round =>
        obtain ⟨j, hj, rfl, hf, ho, hg⟩ := hrel
        have HF := Lib.hid hf
        have HG := Lib.hid hg
        obtain ⟨l, hll, ho⟩ := ho
        have HOL : Hid (wr.ownsRow B 5 1 u0 l.length (l.map B8)) := Lib.hid (by rw [hll]; exact ho)
        have HLL := Lib.hid hll
        clear hf hg ho hll
        by_cases hlt : j < 16
        · have hki : (j : Int) < 16 := by omega
          go_wp2_with (at_builtin; refine wpList_apB _ rfl _ _ 23 rfl B 5 Tryd.underlying23 info8 u0 l rfl (HOL.out.alloc _) (some ⟨wr.heap.size, 0, none⟩) 1 1 [238] rfl rfl (HONE.out wr) (fun h => by cases h) (by rw [HLL.out]; omega) (by have := HF.out.size; have := HBW.out; simp; omega) ?_; intro v' w1 happ; have HA := Lib.hid happ; clear happ)
          go_roundw
          case rel =>
            refine ⟨j + 1, by omega, by go_num, (HF.out.alloc _).next HA.out.fr (fun i hi hlt => ?_), ⟨l ++ [238], by rw [List.length_append, HLL.out]; rfl, ?_⟩, fun g hg => ?_⟩
            · rcases HG.out i (by simpa using hi) with h | h
              · exact h
              · omega
            · have h := HA.out.own
              rw [show (l ++ [(238 : UInt8)]).length = k + (j + 1) by rw [List.length_append, HLL.out]; rfl] at h
              exact h
            · rcases HA.out.blk with hb | ⟨g', hb, hg'⟩
              · exact HG.out g (hb ▸ hg)
              · rw [hb] at hg
                cases hg
                exact .inr (Nat.le_trans HF.out.size (by simp at hg'; omega))
          case measure => simp [intOf] <;> omega
        · have hki : ¬ (j : Int) < 16 := by omega
          go_wp2_with fail
          refine bodyPost_end (results_none rfl _ _ _) rfl ?_
          exact ⟨⟨_, rfl⟩, HF.out⟩
end Go.Proofs.YtibhbfmljibeaaaDoor
