/- Record files: slices.Chunk. -/
import Derived.Test.YtibhbfmljibeaaaDoorRfH
import Derived.Test.YtibhbfmljibeaaaDoorRound
namespace Go.Proofs.YtibhbfmljibeaaaDoor
open Go.RowKit Go.Shelf
attribute [local go_sem] Oper.semAt_some
set_option maxRecDepth 100000 in
theorem Chunk_any (v : Value) (n c : Nat) (a : Option Addr) (k : Nat) (w : World) (hk : 1 ≤ k) : Calls Tryd.prog 36 #[.slice a n c, .int .i64 k] w fun e w' => e = .returned (.func (.func 63) #[] #[.pointer (some ⟨w.heap.size, 0, none⟩), .pointer (some ⟨w.heap.size + 1, 0, none⟩)]) ∧
    w'.heap[w.heap.size]? = some (.cells #[.slice a n c] 23) ∧ w'.heap[w.heap.size + 1]? = some (.cells #[.int .i64 k] 3) ∧ Fr [] w w' ∧ w'.heap.size = w.heap.size + 2 := by
  have hd : ¬ (k : Int) < 1 := by omega
  go_enter Tryd.func36, Tryd.ntmps36
  go_wp2
  go_ret
  refine ⟨rfl, ?_, ?_, ((Fr.refl _ _).alloc _).alloc _, by simp⟩
  · exact ((Fr.refl [] _).alloc _).obj (heap_alloc_new w _) (by simp)
  · have := heap_alloc_new (w.alloc (.cells #[.slice a n c] 23)) (.cells #[.int .i64 k] 3)
    rwa [World.size_alloc] at this
set_option maxRecDepth 100000 in
set_option maxHeartbeats 1600000 in
theorem Chunk1_in (n l B1 B2 ab ao c S m : Nat) (N : Nat) (W : World) (J : Nat → World → Prop) (Jx : World → Prop) (hS : 1 ≤ S) (hSb : S ≤ 1000) (hN : N = m * S) (hNb : N ≤ 140737488351300) (hc : N ≤ c) (h1 : W.cell? ⟨B1, 0, none⟩ = some (.slice (some ⟨ab, ao, none⟩) N c)) (h2 : W.cell? ⟨B2, 0, none⟩ = some (.int .i64 S)) (h0 : J 0 W)
    (hY : ∀ i A W1, i < m → J i A → Fr [] A W1 → YieldAt Fence.wide (n - 1) Tryd.prog l #[.slice (some ⟨ab, ao + i * S, none⟩) S S] W1 (fun e W' => (e = .returned (.bool true) ∧ J (i + 1) W' ∧ W'.cell? ⟨B1, 0, none⟩ = some (.slice (some ⟨ab, ao, none⟩) N c) ∧ W'.cell? ⟨B2, 0, none⟩ = some (.int .i64 S)) ∨ (e = .returned (.bool false) ∧ Jx W'))) :
    CallsIn Fence.wide n Tryd.prog 63 #[.func (.yield l) #[] #[], .pointer (some ⟨B1, 0, none⟩), .pointer (some ⟨B2, 0, none⟩)] W fun e W' => (∃ v, e = .returned v) ∧ ((∃ A, J m A ∧ Fr [] A W') ∨ Jx W') := by
  have HY := Lib.hid hY
  have H0 := Lib.hid h0
  have HN := Lib.hid hN
  have H1 := Lib.hid h1
  have H2 := Lib.hid h2
  clear hY h0 hN h1 h2
  refine callsIn_of_wp Tryd.func63 rfl trivial ?_ rfl
  simp only [Tryd.ntmps63, List.size_toArray, List.length_cons, List.length_nil, Nat.reduceAdd, Nat.reduceSub, Array.replicate_succ, Array.replicate_zero, List.push_toArray, List.append_toArray, List.nil_append, List.cons_append]
  gi_wp2
  gi_loopw [4] (fun q wr => ∃ i : Nat, i ≤ m ∧ q = .int .i64 ((i * S : Nat) : Int) ∧ wr.cell? ⟨B1, 0, none⟩ = some (.slice (some ⟨ab, ao, none⟩) N c) ∧ wr.cell? ⟨B2, 0, none⟩ = some (.int .i64 S) ∧ ∃ A, J i A ∧ Fr [] A wr) (fun q _ => N - (intOf q).toNat)
  case atStart => exact ⟨0, Nat.zero_le _, by simp, H1.out, H2.out, W, H0.out, Fr.refl _ _⟩
  case round =>
    obtain ⟨i, hi, rfl, c1, c2, A, hJ, hfr⟩ := hrel
    obtain ⟨q, hq⟩ : ∃ q, q = i * S := ⟨_, rfl⟩
    rw [← hq]
    have HQ := Lib.hid hq
    have HJ := Lib.hid hJ
    have HFR := Lib.hid hfr
    clear hJ hfr
    by_cases hlt : i < m
    · have hqS : q + S ≤ N := by
        have h := Nat.mul_le_mul_right S (show i + 1 ≤ m by omega)
        rw [Nat.add_mul, Nat.one_mul, ← hq, ← HN.out] at h
        exact h
      have hqN : (q : Int) < (N : Int) := by omega
      have hq0 : (0 : Int) ≤ (q : Int) := by omega
      have hqc : (q : Int) ≤ (N : Int) := by omega
      have hqe : ¬ c = q := by omega
      have hm1 : (S : Int) ≤ (N : Int) - (q : Int) := by omega
      have hm2 : ((N : Int) - (q : Int)).toNat = N - q := by omega
      have hm3 : ((N - q : Nat) : Int) = (N : Int) - (q : Int) := by omega
      clear hq
      have hmn : S ≤ N - q := by omega
      have hmi : min (S : Int) ((N - q : Nat) : Int) = (S : Int) := by omega
      have hss : IntKind.i64.wrap ((q : Int) + (S : Int)) = (q : Int) + (S : Int) := IntWalk.i64_in _ (by omega)
      gi_wp2_with fail
      refine wpIn_wide.2 ?_
      go_quiet (fail)
      obtain ⟨W2, hW2⟩ : ∃ W2, W2 = wr.drewN nq := ⟨_, rfl⟩
      rw [← hW2]
      have hf2 : Fr [] wr W2 := by rw [hW2]; exact (Fr.refl [] wr).drewN nq
      have d1 := hf2.cell c1 (by simp)
      have d2 := hf2.cell c2 (by simp)
      have hy0 := HY.out i A W2 hlt HJ.out (HFR.out.trans hf2)
      rw [← HQ.out] at hy0
      obtain ⟨fn, tmps, assign, body, hy, hR⟩ := hy0
      have HRD := Lib.hid hR
      have t1 : ((q : Int) + (S : Int)).toNat - q = S := by omega
      have t2 : (q : Int) ≤ (q : Int) + (S : Int) := by omega
      have t3 : (q : Int) + (S : Int) ≤ (c : Int) := by omega
      clear hW2 hf2 hR c1 c2 hmi hm1 hm2 hm3 hqS hmn
      gi_wp2_with fail
      refine ⟨fun h => by simp [Fence.wide] at h, HRD.out.mono ?_⟩
      rintro e W3 (⟨rfl, hj3, e1, e2⟩ | ⟨rfl, hjx⟩)
      · have HJ3 := Lib.hid hj3
        have hsw : IntKind.i64.wrap ((q : Int) + (S : Int)) = (q : Int) + (S : Int) := IntWalk.i64_in _ (by omega)
        clear hj3 d1 d2 HRD
        gi_wp2
        go_roundw
        case rel =>
          refine ⟨i + 1, by omega, ?_, by simpa using e1, by simpa using e2, W3, HJ3.out, Fr.refl _ _⟩
          rw [Nat.add_mul, Nat.one_mul, ← HQ.out]
          go_num
        case measure => simp [intOf] <;> omega
      · have HJX := Lib.hid hjx
        clear hjx HRD
        gi_wp2
        refine bodyPost_ret (results_none rfl _ _ _) rfl ?_
        exact ⟨⟨_, rfl⟩, .inr HJX.out⟩
    · obtain rfl : i = m := by omega
      have hqN : ¬ (q : Int) < (N : Int) := by rw [hq, HN.out]; omega
      clear hq
      gi_wp2
      go_end0
      exact ⟨⟨_, rfl⟩, .inl ⟨A, HJ.out, HFR.out⟩⟩
end Go.Proofs.YtibhbfmljibeaaaDoor
