/- The walks of the document's Reader.Raw and Reader.Num. -/
import Derived.Test.YtnmfejlhbgockaaWireK
import Derived.Deep.RegionHeld3
namespace Go.Proofs.Ytnmfejlhbgockaa
open Go.RowKit
attribute [local go_sem] mulU256 wrapU_nat wrapU_I8 wrapU addU mulU remU divU byteU shrU I8_ne I8_eq U_eq U_ne

theorem copy_n (a : Option Addr) (cap k : Nat) (l : List UInt8) (w : World) (hk : l.length = k) (hl : k ≤ 140737488351300) (hb : Bytes w a l) :
    Calls Try.prog 11 #[.slice a k cap] w fun e w' => ∃ v, e = .returned v ∧ Fresh w.heap.size w w' v l := by
  subst hk
  exact copy_any a cap l w hl hb
theorem heldL {w0 w w' : World} {p q : Addr} {u v : Value} (h : w.cell? p = some u ∧ w.cell? q = some v ∧ Fr [] w0 w) (hf : Fr [] w w') : w'.cell? p = some u ∧ w'.cell? q = some v ∧ Fr [] w0 w' :=
  ⟨hf.cell h.1 (by simp), hf.cell h.2.1 (by simp), h.2.2.trans hf⟩
theorem heldL_start {w : World} {p q : Addr} {u v : Value} (h : w.cell? p = some u) (h2 : w.cell? q = some v) : w.drew.cell? p = some u ∧ w.drew.cell? q = some v ∧ Fr [] w w.drew :=
  ⟨h, h2, (Fr.refl _ _).drew⟩
theorem thirdL {a b c : Prop} (h : a ∧ b ∧ c) : c := h.2.2

theorem rfRaw_no (a : Option Addr) (nn c m q : Nat) (e n : Int) (w : World) (h : Rf w m (.slice a nn c) q e) (he : e ≠ 0) :
    Calls Try.prog 28 #[.pointer (some ⟨m, 0, none⟩), .int .i64 n] w fun x w' => ∃ v, x = .returned v ∧ Fresh w.heap.size w w' v [] := by
  have hc2 := h.c2
  go_enter Try.func28, Try.ntmps28
  go_wp2_with fail
  go_ret
  exact ⟨_, rfl, Fresh.mk (own_empty w _) (by simp) ((Fr.refl _ _).alloc _)⟩
theorem rfRaw_arg (a : Option Addr) (nn c m q : Nat) (n : Int) (w : World) (h : Rf w m (.slice a nn c) q 0) (hn : n < 0) :
    Calls Try.prog 28 #[.pointer (some ⟨m, 0, none⟩), .int .i64 n] w fun x w' => ∃ v, x = .returned v ∧ w'.ownsRow w.heap.size 5 1 v ([] : List UInt8).length (([] : List UInt8).map B8) ∧ Rf w' m (.slice a nn c) q 2 ∧ Fr [m] w w' := by
  have hc2 := h.c2
  have hz2 := h.fz 2
  have HE := Lib.hid (show Rf (w.setCell ⟨m, 2, none⟩ (.int .i64 2)) m (.slice a nn c) q 2 from h.set2 2)
  have HF := Lib.hid (show Fr [m] w (w.setCell ⟨m, 2, none⟩ (.int .i64 2)) from (Fr.refl _ _).setCell (by simp) _)
  go_enter Try.func28, Try.ntmps28
  go_wp2_with fail
  go_ret
  refine ⟨_, rfl, ?_, ?_, HF.out.alloc _⟩
  · have := own_empty (w.setCell ⟨m, 2, none⟩ (.int .i64 2)) 5
    simpa using this
  · exact ((Fr.refl [] _).alloc _).obj HE.out (by simp)
theorem rfRaw_short (a : Option Addr) (nn c m q : Nat) (n : Int) (w : World) (h : Rf w m (.slice a nn c) q 0) (hq : q ≤ nn) (hl : nn ≤ 140737488351300) (hn0 : 0 ≤ n) (hn : (nn : Int) - q < n) :
    Calls Try.prog 28 #[.pointer (some ⟨m, 0, none⟩), .int .i64 n] w fun x w' => ∃ v, x = .returned v ∧ w'.ownsRow w.heap.size 5 1 v ([] : List UInt8).length (([] : List UInt8).map B8) ∧ Rf w' m (.slice a nn c) q 10 ∧ Fr [m] w w' := by
  have hc0 := h.c0
  have hc1 := h.c1
  have hc2 := h.c2
  have hz2 := h.fz 2
  have hneg : ¬ n < 0 := by omega
  have HR := Lib.hid h
  go_enter Try.func28, Try.ntmps28
  go_wp2_with fail
  go_quiet (fail)
  go_wp2
  go_ret
  have hr : Rf (w.drewN nq) m (.slice a nn c) q 0 := HR.out
  refine ⟨_, rfl, ?_, ?_, ?_⟩
  · have := own_empty ((w.drewN nq).setCell ⟨m, 2, none⟩ (.int .i64 10)) 5
    simpa using this
  · exact ((Fr.refl [] _).alloc _).obj (hr.set2 10) (by simp)
  · exact (((Fr.refl [m] w).drewN nq).setCell (by simp) _).alloc _
set_option maxHeartbeats 400000 in
theorem rfRaw_yes (a : Option Addr) (c m q k : Nat) (l : List UInt8) (w : World) (h : Rf w m (.slice a l.length c) q 0) (hb : Bytes w a l) (hl : l.length ≤ 140737488351300) (hc : l.length ≤ c) (hk : q + k ≤ l.length) (hkp : 0 < k) :
    Calls Try.prog 28 #[.pointer (some ⟨m, 0, none⟩), .int .i64 k] w fun x w' => ∃ v, x = .returned v ∧ w'.ownsRow w.heap.size 5 1 v ((l.drop q).take k).length (((l.drop q).take k).map B8) ∧ Rf w' m (.slice a l.length c) (q + k) 0 ∧ Fr [m] w w' := by
  obtain ⟨b, off, rfl, _⟩ := hb.at (by omega)
  have hc0 := h.c0
  have hc1 := h.c1
  have hc2 := h.c2
  have HR := Lib.hid h
  have hneg : ¬ (k : Int) < 0 := by omega
  have hle : ¬ (l.length : Int) - q < k := by omega
  have hcq : ¬ c = q := by omega
  have HLN := Lib.hid (show ((l.drop q).take k).length = k by rw [List.length_take, List.length_drop]; omega)
  have HB := Lib.hid (hb.sub q k hk)
  have HC := Lib.hid hc
  go_enter Try.func28, Try.ntmps28
  go_wp2_with fail
  go_quiet (fail)
  go_wp2
  have hd0 : (w.drewN nq).cell? ⟨m, 0, none⟩ = some (.slice (some ⟨b, off, none⟩) l.length c) := hc0
  have hd1 : (w.drewN nq).cell? ⟨m, 1, none⟩ = some (.int .i64 q) := hc1
  obtain ⟨w1, hw1⟩ : ∃ w1, w1 = w.drewN nq := ⟨_, rfl⟩
  have hF1 : Fr [] w w1 := by rw [hw1]; exact (Fr.refl _ _).drewN nq
  rw [← hw1] at hd0 hd1 ⊢
  clear hw1 hc0 hc1 hc2
  have b1 : (0 : Int) ≤ (q : Int) := by omega
  have b2 : (q : Int) ≤ (q : Int) + (k : Int) := by omega
  have b3 : (q : Int) + (k : Int) ≤ (c : Int) := by omega
  have b4 : IntKind.i64.wrap ((q : Int) + (k : Int)) = (q : Int) + (k : Int) := by simp [IntKind.wrap, IntKind.bits, IntKind.signed]; omega
  have b5 : wrap64 ((q : Int) + (k : Int)) = (q : Int) + (k : Int) := IntWalk.wrap64_in _ ⟨by omega, by omega⟩
  have b6 := Lib.hid (show ((q : Int) + (k : Int)).toNat - q = k by omega)
  go_region_held3 (fun w' => w'.cell? ⟨m, 0, none⟩ = some (.slice (some ⟨b, off, none⟩) l.length c) ∧ w'.cell? ⟨m, 1, none⟩ = some (.int .i64 q) ∧ Fr [] w1 w')
      (first
        | exact heldL_start (by assumption) (by assumption)
        | exact heldL (by assumption) hfr7.got.2)
      (first
        | (go_at_call 11; rw [b6.out]; refine (copy_n _ _ k ((l.drop q).take k) _ HLN.out (by omega) (HB.out.keep (hF1.trans (thirdL (by assumption))))).mono ?_; rintro e w7 ⟨v7, rfl, hfr7⟩))
  all_goals
    have hF7 : Fr [] w w7 := hF1.trans (thirdL (by assumption))
    have hr7 : Rf w7 m (.slice (some ⟨b, off, none⟩) l.length c) q 0 := hF7.obj HR.out (by simp)
    have e1 := hr7.c1
    have e2 := hr7.fz 1
    have HR7 := Lib.hid hr7
    clear hr7
    obtain ⟨hw7, hg7⟩ := hfr7.got
    have HO := Lib.hid hw7
    have hsz := hg7.size
    clear hw7 hfr7
    go_wp2
    go_ret
    refine ⟨v7, rfl, ?_, ?_, ?_⟩
    · refine own_fr (own_base HO.out ?_) ((Fr.refl [m] w7).setCell (by simp) _) ?_
      · exact hF1.size
      · intro g hg hm
        have h1 := (own_lt HO.out hg).1
        have h2 := (Array.getElem?_eq_some_iff.1 HR.out).1
        have h3 : w.heap.size ≤ w1.heap.size := hF1.size
        have h4 : w1.heap.size ≤ g := h1
        have h5 : g = m := by simpa using hm
        omega
    · exact HR7.out.set1 (q + k)
    · exact (hF7.mono (by simp)).setCell (by simp) _
set_option maxHeartbeats 800000 in
theorem rfRaw_zero (a : Option Addr) (c m q nn : Nat) (w : World) (h : Rf w m (.slice a nn c) q 0) (hl : nn ≤ 140737488351300) (hc : nn ≤ c) (hk : q ≤ nn) (hno : a = none → c = 0) :
    Calls Try.prog 28 #[.pointer (some ⟨m, 0, none⟩), .int .i64 0] w fun x w' => ∃ v, x = .returned v ∧ w'.ownsRow w.heap.size 5 1 v ([] : List UInt8).length (([] : List UInt8).map B8) ∧ Rf w' m (.slice a nn c) q 0 ∧ Fr [m] w w' := by
  have hc0 := h.c0
  have hc1 := h.c1
  have hc2 := h.c2
  have HR := Lib.hid h
  have hle : ¬ (nn : Int) - q < 0 := by omega
  cases a with
  | none =>
    have h0 := hno rfl
    subst h0
    have h1 : nn = 0 := by omega
    subst h1
    have h2 : q = 0 := by omega
    subst h2
    clear hno
    have b4 : IntKind.i64.wrap ((0 : Int) + 0) = 0 := by decide
    have b5 : IntKind.i64.wrap (0 : Int) = 0 := by decide
    have b6 : wrap64 (0 : Int) = 0 := IntWalk.wrap64_in _ ⟨by omega, by omega⟩
    have b7 : wrap64 ((0 : Int) + 0) = 0 := IntWalk.wrap64_in _ ⟨by omega, by omega⟩
    go_enter Try.func28, Try.ntmps28
    go_wp2_with fail
    go_quiet (fail)
    go_wp2
    have hd0 : (w.drewN nq).cell? ⟨m, 0, none⟩ = some (.slice none 0 0) := hc0
    have hd1 : (w.drewN nq).cell? ⟨m, 1, none⟩ = some (.int .i64 0) := hc1
    obtain ⟨w1, hw1⟩ : ∃ w1, w1 = w.drewN nq := ⟨_, rfl⟩
    have hF1 : Fr [] w w1 := by rw [hw1]; exact (Fr.refl _ _).drewN nq
    rw [← hw1] at hd0 hd1 ⊢
    clear hw1 hc0 hc1 hc2
    go_region_held3 (fun w' => w'.cell? ⟨m, 0, none⟩ = some (.slice none 0 0) ∧ w'.cell? ⟨m, 1, none⟩ = some (.int .i64 0) ∧ Fr [] w1 w')
        (first
          | exact heldL_start (by assumption) (by assumption)
          | exact heldL (by assumption) hfr7.got.2)
        (first
          | (go_at_call 11; refine (copy_n _ _ _ [] _ ?_ ?_ (Bytes.nil _ _)).mono ?_; (first | rfl | (simp; done) | (simp; omega)); (first | (simp; done) | omega | (simp; omega)); rintro e w7 ⟨v7, rfl, hfr7⟩))
    all_goals
      have hF7 : Fr [] w w7 := hF1.trans (thirdL (by assumption))
      have hr7 : Rf w7 m (.slice none 0 0) 0 0 := hF7.obj HR.out (by simp)
      have e1 := hr7.c1
      have e2 := hr7.fz 1
      have HR7 := Lib.hid hr7
      clear hr7
      obtain ⟨hw7, hg7⟩ := hfr7.got
      have HO := Lib.hid hw7
      have hsz := hg7.size
      clear hw7 hfr7
      go_wp2
      go_ret
      refine ⟨v7, rfl, ?_, ?_, ?_⟩
      · refine own_fr (own_base HO.out ?_) ((Fr.refl [m] w7).setCell (by simp) _) ?_
        · exact hF1.size
        · intro g hg hm
          have h1 := (own_lt HO.out hg).1
          have h2 := (Array.getElem?_eq_some_iff.1 HR.out).1
          have h3 : w.heap.size ≤ w1.heap.size := hF1.size
          have h4 : w1.heap.size ≤ g := h1
          have h5 : g = m := by simpa using hm
          omega
      · exact HR7.out.set1 0
      · exact (hF7.mono (by simp)).setCell (by simp) _
  | some ad =>
    clear hno
    have b3 : (q : Int) ≤ (c : Int) := by omega
    have b4 : IntKind.i64.wrap ((q : Int) + 0) = (q : Int) := by simp [IntKind.wrap, IntKind.bits, IntKind.signed]; omega
    have b5 : IntKind.i64.wrap (q : Int) = (q : Int) := by simp [IntKind.wrap, IntKind.bits, IntKind.signed]; omega
    have b6 : wrap64 (q : Int) = (q : Int) := IntWalk.wrap64_in _ ⟨by omega, by omega⟩
    have b7 : wrap64 ((q : Int) + 0) = (q : Int) := by rw [Int.add_zero]; exact b6
    by_cases hcq : c = q
    · have hnq : nn = q := by omega
      subst hnq
      subst hcq
      go_enter Try.func28, Try.ntmps28
      go_wp2_with fail
      go_quiet (fail)
      go_wp2
      have hd0 : (w.drewN nq).cell? ⟨m, 0, none⟩ = some (.slice (some ad) c c) := hc0
      have hd1 : (w.drewN nq).cell? ⟨m, 1, none⟩ = some (.int .i64 c) := hc1
      obtain ⟨w1, hw1⟩ : ∃ w1, w1 = w.drewN nq := ⟨_, rfl⟩
      have hF1 : Fr [] w w1 := by rw [hw1]; exact (Fr.refl _ _).drewN nq
      rw [← hw1] at hd0 hd1 ⊢
      clear hw1 hc0 hc1 hc2
      go_region_held3 (fun w' => w'.cell? ⟨m, 0, none⟩ = some (.slice (some ad) c c) ∧ w'.cell? ⟨m, 1, none⟩ = some (.int .i64 c) ∧ Fr [] w1 w')
          (first
            | exact heldL_start (by assumption) (by assumption)
            | exact heldL (by assumption) hfr7.got.2)
          (first
            | (go_at_call 11; refine (copy_n _ _ _ [] _ ?_ ?_ (Bytes.nil _ _)).mono ?_; (first | rfl | (simp; done) | (simp; omega)); (first | (simp; done) | omega | (simp; omega)); rintro e w7 ⟨v7, rfl, hfr7⟩))
      all_goals
        have hF7 : Fr [] w w7 := hF1.trans (thirdL (by assumption))
        have hr7 : Rf w7 m (.slice (some ad) c c) c 0 := hF7.obj HR.out (by simp)
        have e1 := hr7.c1
        have e2 := hr7.fz 1
        have HR7 := Lib.hid hr7
        clear hr7
        obtain ⟨hw7, hg7⟩ := hfr7.got
        have HO := Lib.hid hw7
        have hsz := hg7.size
        clear hw7 hfr7
        go_wp2
        go_ret
        refine ⟨v7, rfl, ?_, ?_, ?_⟩
        · refine own_fr (own_base HO.out ?_) ((Fr.refl [m] w7).setCell (by simp) _) ?_
          · exact hF1.size
          · intro g hg hm
            have h1 := (own_lt HO.out hg).1
            have h2 := (Array.getElem?_eq_some_iff.1 HR.out).1
            have h3 : w.heap.size ≤ w1.heap.size := hF1.size
            have h4 : w1.heap.size ≤ g := h1
            have h5 : g = m := by simpa using hm
            omega
        · exact HR7.out.set1 c
        · exact (hF7.mono (by simp)).setCell (by simp) _
    · go_enter Try.func28, Try.ntmps28
      go_wp2_with fail
      go_quiet (fail)
      go_wp2
      have hd0 : (w.drewN nq).cell? ⟨m, 0, none⟩ = some (.slice (some ad) nn c) := hc0
      have hd1 : (w.drewN nq).cell? ⟨m, 1, none⟩ = some (.int .i64 q) := hc1
      obtain ⟨w1, hw1⟩ : ∃ w1, w1 = w.drewN nq := ⟨_, rfl⟩
      have hF1 : Fr [] w w1 := by rw [hw1]; exact (Fr.refl _ _).drewN nq
      rw [← hw1] at hd0 hd1 ⊢
      clear hw1 hc0 hc1 hc2
      go_region_held3 (fun w' => w'.cell? ⟨m, 0, none⟩ = some (.slice (some ad) nn c) ∧ w'.cell? ⟨m, 1, none⟩ = some (.int .i64 q) ∧ Fr [] w1 w')
          (first
            | exact heldL_start (by assumption) (by assumption)
            | exact heldL (by assumption) hfr7.got.2)
          (first
            | (go_at_call 11; refine (copy_n _ _ _ [] _ ?_ ?_ (Bytes.nil _ _)).mono ?_; (first | rfl | (simp; done) | (simp; omega)); (first | (simp; done) | omega | (simp; omega)); rintro e w7 ⟨v7, rfl, hfr7⟩))
      all_goals
        have hF7 : Fr [] w w7 := hF1.trans (thirdL (by assumption))
        have hr7 : Rf w7 m (.slice (some ad) nn c) q 0 := hF7.obj HR.out (by simp)
        have e1 := hr7.c1
        have e2 := hr7.fz 1
        have HR7 := Lib.hid hr7
        clear hr7
        obtain ⟨hw7, hg7⟩ := hfr7.got
        have HO := Lib.hid hw7
        have hsz := hg7.size
        clear hw7 hfr7
        go_wp2
        go_ret
        refine ⟨v7, rfl, ?_, ?_, ?_⟩
        · refine own_fr (own_base HO.out ?_) ((Fr.refl [m] w7).setCell (by simp) _) ?_
          · exact hF1.size
          · intro g hg hm
            have h1 := (own_lt HO.out hg).1
            have h2 := (Array.getElem?_eq_some_iff.1 HR.out).1
            have h3 : w.heap.size ≤ w1.heap.size := hF1.size
            have h4 : w1.heap.size ≤ g := h1
            have h5 : g = m := by simpa using hm
            omega
        · exact HR7.out.set1 q
        · exact (hF7.mono (by simp)).setCell (by simp) _
theorem rfRaw_any (a : Option Addr) (c m q : Nat) (e n : Int) (l : List UInt8) (w : World) (hno : a = none → c = 0) (h : Rf w m (.slice a l.length c) q e) (hb : Bytes w a l) (hl : l.length ≤ 140737488351300) (hc : l.length ≤ c) (hq : q ≤ l.length) :
    Calls Try.prog 28 #[.pointer (some ⟨m, 0, none⟩), .int .i64 n] w fun x w' => ∃ v, x = .returned v ∧ w'.ownsRow w.heap.size 5 1 v (rTake l true q e n).length ((rTake l true q e n).map B8) ∧ Rf w' m (.slice a l.length c) (rAt l true q e n) (rErr l true q e n) ∧ Fr [m] w w' := by
  rcases r_cases l true q e n with he | ⟨rfl, hx⟩ | ⟨rfl, _, hn0, hx⟩ | ⟨k, rfl, _, rfl, hk⟩
  · obtain ⟨e1, e2, e3⟩ := r_late (l := l) (ok := true) (q := q) (n := n) he
    rw [e1, e2, e3]
    refine (rfRaw_no a _ c m q e n w h he).mono ?_
    rintro x w' ⟨v, rfl, hf⟩
    exact ⟨v, rfl, hf.got.1, hf.got.2.obj h (by simp), hf.got.2.mono (by simp)⟩
  · obtain ⟨e1, e2, e3⟩ := r_arg (l := l) (q := q) hx
    rw [e1, e2, e3]
    exact rfRaw_arg a _ c m q n w h (by simpa using hx)
  · obtain ⟨e1, e2, e3⟩ := r_short (l := l) (q := q) hn0 hx
    rw [e1, e2, e3]
    exact rfRaw_short a _ c m q n w h hq hl hn0 hx
  · obtain ⟨e1, e2, e3⟩ := r_yes (l := l) (q := q) hk
    rw [e1, e2, e3]
    rcases Nat.eq_zero_or_pos k with h0 | hpos
    · subst h0
      rw [List.take_zero]
      exact rfRaw_zero a c m q _ w h hl hc hq hno
    · exact rfRaw_yes a c m q k l w h hb hl hc (by omega) hpos
theorem rfNum_any (a : Option Addr) (c m q : Nat) (e z : Int) (l : List UInt8) (w : World) (hno : a = none → c = 0) (h : Rf w m (.slice a l.length c) q e) (hb : Bytes w a l) (hl : l.length ≤ 140737488351300) (hc : l.length ≤ c) (hq : q ≤ l.length) :
    Calls Try.prog 26 #[.pointer (some ⟨m, 0, none⟩), .int .i64 z] w fun x w' => x = .returned (.int .u64 (U (rNum l q e z))) ∧ Rf w' m (.slice a l.length c) (rAt l (isWd z) q e z) (rErr l (isWd z) q e z) ∧ Fr [m] w w' := by
  have hc2 := h.c2
  have hz2 := h.fz 2
  have HNO := Lib.hid hno
  clear hno
  have hbe : be [] = 0 := rfl
  unfold rNum
  by_cases he : e = 0
  · subst he
    cases hz : isWd z with
    | false =>
      obtain ⟨e1, e2, e3⟩ := r_arg (l := l) (q := q) (ok := false) (n := z) (.inl rfl)
      rw [e1, e2, e3, hbe]
      have HE := Lib.hid (show Rf (w.setCell ⟨m, 2, none⟩ (.int .i64 2)) m (.slice a l.length c) q 2 from h.set2 2)
      have HF := Lib.hid (show Fr [m] w (w.setCell ⟨m, 2, none⟩ (.int .i64 2)) from (Fr.refl _ _).setCell (by simp) _)
      go_enter Try.func26, Try.ntmps26
      go_wp2_with fail
      refine (width_any z w).mono ?_
      rintro x w' ⟨rfl, rfl⟩
      rw [hz]
      go_wp2
      go_ret
      exact ⟨by rw [U_zero]; rfl, HE.out, HF.out⟩
    | true =>
      obtain ⟨wd, rfl, hw⟩ := isWd_of z hz
      have H8 : (rTake l true q 0 wd).length ≤ 8 := by
        unfold rTake
        have := hw.le
        split
        · simp; omega
        · simp
      have HL := Lib.hid H8; clear H8
      have HR := Lib.hid h
      go_enter Try.func26, Try.ntmps26
      go_wp2_with fail
      refine (width_any wd w).mono ?_
      rintro x w' ⟨rfl, rfl⟩
      rw [hz]
      go_wp2_with fail
      refine (rfRaw_any a c m q 0 wd l w HNO.out HR.out hb hl hc hq).mono ?_
      rintro x w1 ⟨v, rfl, hown, hst, hf⟩
      obtain ⟨av, cv, rfl, hbv, _⟩ := Bytes.of_own hown
      go_wp2_with fail
      refine (val_any av cv (rTake l true q 0 wd) w1 HL.out hbv).mono ?_
      rintro x w2 ⟨rfl, rfl⟩
      go_wp2
      go_ret
      exact ⟨rfl, hst, hf⟩
  · obtain ⟨e1, e2, e3⟩ := r_late (l := l) (ok := isWd z) (q := q) (n := z) he
    rw [e1, e2, e3, hbe]
    go_enter Try.func26, Try.ntmps26
    go_wp2_with fail
    go_ret
    exact ⟨by rw [U_zero]; rfl, h, Fr.refl _ _⟩
end Go.Proofs.Ytnmfejlhbgockaa
