/- Tokens: All, for whatever loop goes over it. -/
import Derived.Test.YtlckhfjkdahfpaaDoorTkU
import Derived.Test.YtlckhfjkdahfpaaDoorLate
namespace Go.Proofs.YtlckhfjkdahfpaaDoor
open Go.RowKit Go.Maps Go.Shelf
attribute [local go_sem] Oper.semAt_some
theorem eql_nilT (w : World) (f : Fn) (xs ys : Array Value) : (binOp .eql 56 (.func f xs ys) .nilFunc).run Tryd.prog w = .ok (.bool false) w := by
  have h : ∀ d : Nat, (Op.equalIn (d + 1) 56 (.func f xs ys) .nilFunc).run Tryd.prog w = .ok false w := fun d => by simp [Op.equalIn, run_underlying Tryd.underlying56]
  simp only [binOp]
  simp [Op.equal, Op.maxDepth, h 9999]
theorem str_one (N : Nms) : ∀ u ∈ N.map Str, u.oneCell' = true := by
  intro u hu
  obtain ⟨x, -, rfl⟩ := List.mem_map.1 hu
  rfl
/-- names are appended to a new list -/
structure NewS (w w' : World) (v : Value) (N : Nms) : Prop where
  row : w'.ownsRow w.heap.size 9 1 v N.length (N.map Str)
  nn : v ≠ .slice none 0 0
  fr : Fr [] w w'
theorem NewS.addr {w w' : World} {v : Value} {N : Nms} (h : NewS w w' v N) : ∃ g c, v = .slice (some ⟨g, 0, none⟩) N.length c ∧ w.heap.size ≤ g ∧ g < w'.heap.size := by
  rcases h.row.2 with ⟨e, _⟩ | ⟨g, cap, cur, e, hb, hh, _⟩
  · exact absurd e h.nn
  · exact ⟨g, cap, e, hb, (Array.getElem?_eq_some_iff.1 hh).1⟩
theorem own_emptyS (w : World) : (w.alloc (.cells #[] 9)).ownsRow w.heap.size 9 1 (.slice (some ⟨w.heap.size, 0, none⟩) 0 0) 0 [] := own_empty w 9
theorem newS_app {w w' : World} {v' : Value} {N : Nms} (ha : App (w.alloc (.cells #[] 9)) w' w.heap.size 9 1 (.slice (some ⟨w.heap.size, 0, none⟩) 0 0) v' 0 N.length [] (N.map Str)) : NewS w w' v' N := by
  refine ⟨?_, (fun e => by have := (ha.nil.1 e).1; cases this), ((Fr.refl _ _).alloc _).next (Fr.of_grown ha.grown [w.heap.size] fun k hk _ => by simpa [Value.ownBlock, eq_comm] using hk) (by intro i hi hlt; simp at hi; omega)⟩
  have h := ha.own
  simpa only [List.nil_append, Nat.zero_add] using h
theorem eql_nilS (w : World) (a : Option Addr) (n c n' c' : Nat) : (binOp .eql 23 (.slice a n c) (.slice none n' c')).run Tryd.prog w = .ok (.bool a.isNone) w := Lib.run_eql_slice_nil w _ _ a n c n' c' Tryd.underlying23
set_option maxRecDepth 100000 in
theorem CloneS_F (B : Nat) (w : World) (v : Value) (N : Nms) (h : w.ownsRow B 9 1 v N.length (N.map Str)) (hN : N.length ≤ 200) :
    Calls Tryd.prog 48 #[v] w fun e w' => ∃ v', e = .returned v' ∧ w'.ownsRow w.heap.size 9 1 v' N.length (N.map Str) ∧ Fr [] w w' := by
  rcases h.2 with ⟨rfl, h0⟩ | ⟨g, cap, cur, rfl, hb, hh, hn, hm, hs, ht⟩
  · have hN0 : N.length = 0 := h0
    have hN1 : N = [] := List.eq_nil_of_length_eq_zero hN0
    subst hN1
    clear h
    have qE := eql_nilS
    go_enter Tryd.func48, Tryd.ntmps48
    go_wp2_with fail
    go_ret
    exact ⟨_, rfl, World.ownsRow_nil _ _ _ _, Fr.refl _ _⟩
  · have hnews := (own_fr h ((Fr.refl [] w).alloc (.cells #[] 9)) (by simp)).cells (g := g) rfl
    have HNW := Lib.hid hnews
    have HL := Lib.hid (show (N.map Str).length = N.length * 1 by simp)
    clear hh hn hm hs ht h hnews
    obtain ⟨n, hnl⟩ : ∃ n, n = N.length := ⟨_, rfl⟩
    have HNL := Lib.hid hnl
    rw [← hnl] at hN HL
    simp only [← hnl]
    clear hnl
    have qE := eql_nilS
    go_enter Tryd.func48, Tryd.ntmps48
    go_wp2_with (at_builtin; refine wpList_appS _ rfl _ _ 23 rfl w.heap.size 9 (.string ⟨#[]⟩) 1 16 Tryd.underlying23 infoS rfl (by decide) (.slice (some ⟨w.heap.size, 0, none⟩) 0 0) 0 [] rfl (own_emptyS w) (some ⟨g, 0, none⟩) n cap (N.map Str) rfl HL.out (fun a e => by cases e; exact HNW.out) (fun e => by cases e) (str_one N) (by unfold maxLen; omega) (by omega) (by simp) ?_; intro v' w1 happ; have HA := Lib.hid happ; clear happ)
    go_ret
    have ha := HA.out
    rw [HNL.out] at ha ⊢
    have hs := newS_app ha
    exact ⟨v', rfl, hs.row, hs.fr⟩
set_option maxRecDepth 100000 in
theorem All_T (B : Nat) (bs : List Nat) (w : World) (t kd vr : Nat) (N : Nms) (h : TB B bs w t kd vr N) :
    Calls Tryd.prog 25 #[.pointer (some ⟨t, 0, none⟩)] w fun e w' => ∃ b v, e = .returned (.func (.func 49) #[] #[.pointer (some ⟨b, 0, none⟩)]) ∧ w.heap.size ≤ b ∧ w'.heap[b]? = some (.cells #[v] 23) ∧ w'.ownsRow w.heap.size 9 1 v N.length (N.map Str) ∧ Fr [] w w' := by
  obtain ⟨p, mb, v, fb, s, h, -, -, -⟩ := h
  obtain ⟨x0, x1, x2⟩ := trioT h.obj
  have HC := Lib.hid (CloneS_F B w v N h.nms h.ok.len)
  obtain ⟨a, c, rfl⟩ : ∃ a c, v = .slice a N.length c := by
    rcases h.nms.2 with ⟨e, h0⟩ | ⟨g, cap, cur, e, _⟩
    · exact ⟨none, 0, by rw [h0]; exact e⟩
    · exact ⟨_, _, e⟩
  clear h
  go_enter Tryd.func25, Tryd.ntmps25
  go_wp2_with fail
  refine HC.out.mono ?_
  rintro e w1 ⟨v1, rfl, hr, hf⟩
  obtain ⟨a1, c1, rfl⟩ : ∃ a c, v1 = .slice a N.length c := by
    rcases hr.2 with ⟨e, h0⟩ | ⟨g, cap, cur, e, _⟩
    · exact ⟨none, 0, by rw [h0]; exact e⟩
    · exact ⟨_, _, e⟩
  have HR := Lib.hid hr
  have HF := Lib.hid hf
  clear hr hf
  go_wp2_with fail
  go_ret
  exact ⟨w1.heap.size, .slice a1 N.length c1, rfl, HF.out.size, heap_alloc_new w1 _, own_fr HR.out ((Fr.refl [] w1).alloc _) (by simp), HF.out.alloc _⟩
set_option maxRecDepth 100000 in
set_option maxHeartbeats 1600000 in
theorem AllT1_in (n l Bn : Nat) (W : World) (a : Option Addr) (c : Nat) (N : Nms) (hN : N.length ≤ 200) (J : Nat → World → Prop) (Jx : World → Prop)
    (hJ : ∀ id A, J id A → A.cell? ⟨Bn, 0, none⟩ = some (.slice a N.length c) ∧ ∃ B, A.ownsRow B 9 1 (.slice a N.length c) N.length (N.map Str)) (h0 : J 0 W)
    (hS : ∀ id A, J id A → id < N.length → N.getD id [] = [] → J (id + 1) A)
    (hY : ∀ id A W1, J id A → id < N.length → N.getD id [] ≠ [] → Fr [] A W1 →
      YieldAt Fence.wide (n - 1) Tryd.prog l #[.int .i64 (id : Nat), Str (N.getD id [])] W1 (fun e W' => (e = .returned (.bool true) ∧ J (id + 1) W') ∨ (e = .returned (.bool false) ∧ Jx W'))) :
    CallsIn Fence.wide n Tryd.prog 49 #[.func (.yield l) #[] #[], .pointer (some ⟨Bn, 0, none⟩)] W fun e W' => (∃ v, e = .returned v) ∧ ((∃ A, J N.length A ∧ Fr [] A W') ∨ Jx W') := by
  have HJ := Lib.hid hJ
  have HY := Lib.hid hY
  have HS := Lib.hid hS
  have H0 := Lib.hid h0
  have cB := (hJ _ _ h0).1
  clear hJ hY hS h0
  refine callsIn_of_wp Tryd.func49 rfl trivial ?_ rfl
  simp only [Tryd.ntmps49, List.size_toArray, List.length_cons, List.length_nil, Nat.reduceAdd, Nat.reduceSub, Array.replicate_succ, Array.replicate_zero, List.push_toArray, List.append_toArray, List.nil_append, List.cons_append]
  gi_wp2
  gi_loopw [7] (fun q wr => ∃ (id : Nat) (A : World), q = .int .i64 id ∧ id ≤ N.length ∧ J id A ∧ Fr [] A wr) (fun q _ => N.length - (intOf q).toNat)
  case atStart => exact ⟨0, W, rfl, by omega, H0.out, Fr.refl _ _⟩
  case round =>
    obtain ⟨id, A, rfl, hid, hj, hfr⟩ := hrel
    obtain ⟨-, B, hrow⟩ := HJ.out _ _ hj
    have hrow := own_fr hrow hfr (by simp)
    have HJA := Lib.hid hj
    have HFR := Lib.hid hfr
    have e1 : IntKind.i64.wrap ((id : Int) + 1) = (id : Int) + 1 := IntWalk.i64_in _ (by omega)
    clear hj hfr cB
    by_cases hlt : id < N.length
    · obtain ⟨g, c', e', hcl, hcf⟩ := own_strC hrow hlt
      simp only [Value.slice.injEq] at e'
      obtain ⟨rfl, -, rfl⟩ := e'
      have hki : (id : Int) < (N.length : Int) := by omega
      have hk0 : (0 : Int) ≤ (id : Int) := by omega
      obtain ⟨x, hx⟩ : ∃ x, x = N.getD id [] := ⟨_, rfl⟩
      rw [← hx] at hcl
      obtain ⟨X, hX⟩ : ∃ X, X = ByteArray.mk x.toArray := ⟨_, rfl⟩
      rw [show Str x = .string X by rw [hX]; rfl] at hcl
      by_cases hx0 : x = []
      · have hX2 : X = ⟨#[]⟩ := by rw [hX, hx0]
        rw [hX2] at hcl
        have HJ1 := Lib.hid (HS.out _ _ HJA.out hlt (by rw [← hx]; exact hx0))
        clear hX hX2 hx0 hx hrow hcf
        gi_wp2_with fail
        refine ⟨fun _ h => (by cases h), ?_⟩
        gi_wp2
        go_roundw
        case rel => exact ⟨id + 1, A, by go_num, by omega, HJ1.out, HFR.out⟩
        case measure => simp [intOf] <;> omega
      · have hnl : X.toList.isEmpty = false := by rw [hX, ByteArray.toList_mk]; simpa using hx0
        obtain ⟨fn, tmps, assign, body, hy, hR⟩ := HY.out id A wr HJA.out hlt (by rw [← hx]; exact hx0) HFR.out
        rw [← hx, show Str x = .string X by rw [hX]; rfl] at hy
        have HRD := Lib.hid hR
        have HHY := Lib.hid hy
        clear hR hX hx0 hx hrow hcf
        gi_wp2_with fail
        refine ⟨fun h => (by cases h), ?_⟩
        refine HRD.out.mono ?_
        rintro e W2 (⟨rfl, hj2⟩ | ⟨rfl, hjx⟩)
        · have HJ2 := Lib.hid hj2
          clear hj2 HRD hy
          gi_wp2
          go_roundw
          case rel => exact ⟨id + 1, W2, by go_num, by omega, HJ2.out, Fr.refl _ _⟩
          case measure => simp [intOf] <;> omega
        · have HJX := Lib.hid hjx
          clear hjx HRD hy
          gi_wp2
          refine bodyPost_ret (results_none rfl _ _ _) rfl ?_
          exact ⟨⟨_, rfl⟩, .inr HJX.out⟩
    · have hki : ¬ (id : Int) < (N.length : Int) := by omega
      obtain rfl : N.length = id := by omega
      gi_wp2
      go_end0
      exact ⟨⟨_, rfl⟩, .inl ⟨A, HJA.out, HFR.out⟩⟩
/-- the marks that ranges over functions leave -/
def marks (Ds : List Nat) : List Deferred := Ds.map fun D => { target := .collected D, args := #[] }
theorem marks_leave {P : Program} {n : Nat} {fn : Func} {R : Ending → World → Prop} {tmps : Array Value} {v : Value} : ∀ (Ds : List Nat) (W : World), (∀ D ∈ Ds, W.heap[D]? = some (.deferred (some []))) → Ds.Nodup →
    (∀ W', Fr Ds W W' → (results fn tmps).run P W' = .ok v W' ∧ R (.returned v) W') → LeavesInM Fence.wide n P fn tmps R (marks Ds) .returning W
  | [], W, _, _, h => ⟨v, (h W (Fr.refl _ _)).1, (h W (Fr.refl _ _)).2⟩
  | D :: Ds, W, hD, hnd, h => by
    have h1 := hD D List.mem_cons_self
    have hl : D < W.heap.size := (Array.getElem?_eq_some_iff.1 h1).1
    obtain ⟨hn, hnd2⟩ := List.nodup_cons.1 hnd
    have hf : Fr (D :: Ds) W (W.putObj D (.deferred none)) := (Fr.refl _ _).putObj (fun _ => List.mem_cons_self) _
    refine ⟨by simp, .inl ⟨D, _, rfl, run_takeDeferred h1, marks_leave Ds _ (fun D' hD' => ?_) hnd2 (fun W' hW' => h W' (hf.trans (hW'.mono fun i hi _ => List.mem_cons_of_mem _ hi)))⟩⟩
    rw [World.putObj_heap_other (fun e => hn (by rw [← e]; exact hD'))]
    exact hD D' (List.mem_cons_of_mem _ hD')
theorem marks_ret {P : Program} {n : Nat} {fn : Func} {R : Ending → World → Prop} {tmps : Array Value} {Ds : List Nat} {W : World} {v : Value} (hD : ∀ D ∈ Ds, W.heap[D]? = some (.deferred (some []))) (hnd : Ds.Nodup)
    (h : ∀ W', Fr Ds W W' → (results fn tmps).run P W' = .ok v W' ∧ R (.returned v) W') : bodyPostM Fence.wide n P fn R .ret { tmps := tmps, defers := marks Ds } W := marks_leave Ds W hD hnd h
end Go.Proofs.YtlckhfjkdahfpaaDoor
