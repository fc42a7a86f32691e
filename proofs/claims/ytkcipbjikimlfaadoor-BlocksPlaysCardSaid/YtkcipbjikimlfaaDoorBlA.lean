/- Blocks: open, sameInts; both files. -/
import Derived.Test.YtkcipbjikimlfaaDoorBkK
import Derived.Test.YtkcipbjikimlfaaDoorMbE
namespace Go.Proofs.YtkcipbjikimlfaaDoor
open Go.RowKit
attribute [local go_sem ↓] Go.wp_at_zero Go.wp_at_succ
attribute [local go_sem] Oper.semAt_some
/-- the program's file and the document's, apart from each other -/
structure Both (B C : Nat) (w : World) (p q : Nat) (bs cs : List Nat) (s t : RFS) : Prop where
  f : RF B bs w p s
  m : MF C cs w q t
  ap : ∀ i ∈ bs, i ∉ cs
theorem Both.keep {B C p q : Nat} {bs cs : List Nat} {s t : RFS} {w w' : World} (h : Both B C w p q bs cs s t) (hf : Fr [] w w') : Both B C w' p q bs cs s t := ⟨h.f.keep hf, h.m.keep hf, h.ap⟩
theorem Both.prog {B C p q : Nat} {bs cs bs' : List Nat} {s t : RFS} {w w1 : World} (h : Both B C w p q bs cs s t) (hs : Stp bs w bs' w1) : MF C cs w1 q t ∧ ∀ i ∈ bs', i ∉ cs :=
  ⟨h.m.fr hs.1 fun i hi hm => h.ap i hm hi, hs.apart h.ap fun i hi => (h.m.lt i hi).2⟩
theorem Both.doc {B C p q : Nat} {cs bs' cs' : List Nat} {s1 t1 : RFS} {w1 w2 : World} (h1 : RF B bs' w1 p s1) (ap : ∀ i ∈ bs', i ∉ cs) (h2 : MF C cs' w2 q t1) (hs : Stp cs w1 cs' w2) : Both B C w2 p q bs' cs' s1 t1 :=
  ⟨h1.fr hs.1 ap, h2, hs.apart' ap fun i hi => (h1.lt i hi).2⟩
/-- what open tells -/
def OpenB (w w' : World) (e : Ending) (l : List UInt8) : Prop :=
  (e = .returned (.tuple #[.pointer none, .pointer none, .bool true]) ∧ Fr [] w w') ∨
  (∃ kd vr sz R p q bs cs, openB l = .ok (kd, vr, sz, R) ∧ e = .returned (.tuple #[.pointer (some ⟨p, 0, none⟩), .pointer (some ⟨q, 0, none⟩), .bool true]) ∧ Both w.heap.size w.heap.size w' p q bs cs ⟨kd, vr, sz, 0, R⟩ ⟨kd, vr, sz, 0, R⟩ ∧ Fr [] w w')
theorem openB_back {b : List UInt8} {kd vr sz : Nat} {R : Recs} (h : openB b = .ok (kd, vr, sz, R)) : fileB kd vr sz R = b := (openB_inv h).1
theorem RF.base_le {B B' : Nat} {bs : List Nat} {w : World} {p : Nat} {s : RFS} (h : RF B bs w p s) (hB : B' ≤ B) : RF B' bs w p s := by
  obtain ⟨v, X, h, rfl⟩ := h
  exact ⟨v, X, ⟨h.obj, ⟨own_base h.recs.row hB, fun x hx => own_base (h.recs.dat x hx) hB⟩, h.opt, h.ok, Nat.le_trans hB h.base⟩, rfl⟩
theorem MF.base_le {B B' : Nat} {bs : List Nat} {w : World} {p : Nat} {s : RFS} (h : MF B bs w p s) (hB : B' ≤ B) : MF B' bs w p s := by
  obtain ⟨v, X, h, rfl⟩ := h
  exact ⟨v, X, ⟨h.obj, ⟨own_base h.recs.row hB, fun x hx => own_base (h.recs.dat x hx) hB⟩, h.opt, h.ok, Nat.le_trans hB h.base⟩, rfl⟩
set_option maxRecDepth 100000 in
set_option maxHeartbeats 3200000 in
theorem open10 (a : Option Addr) (c : Nat) (l : List UInt8) (w : World) (hl : l.length ≤ 140737488351300) (hc : l.length ≤ c) (hno : a = none → c = 0) (hb : Bytes w a l) (hn : Nib w) :
    Calls Tryd.prog 9 #[.slice a l.length c] w fun e w' => OpenB w w' e l := by
  have HN := Lib.hid hn
  have HB := Lib.hid hb
  have HNO := Lib.hid hno
  have HC := Lib.hid hc
  clear hn hb hno hc
  go_enter Tryd.func9, Tryd.ntmps9
  go_wp2_with fail
  refine (clone_any a c l w hl HNO.out HB.out).mono ?_
  rintro e w2 ⟨v, rfl, hv⟩
  obtain ⟨g, cap, rfl, hg, hg2, hb2, hf2⟩ := hv.bytes
  have HCAP := Lib.hid hv.cap
  have HB2 := Lib.hid hb2
  have HF2 := Lib.hid hf2
  clear hv hb2 hf2 hg hg2
  go_wp2_with fail
  refine (Open_F (some ⟨g, 0, none⟩) cap l w2 hl HCAP.out HB2.out (nib_keep HN.out HF2.out)).mono ?_
  rintro e w3 (⟨E, hE, rfl, hf3⟩ | ⟨kd, vr, sz, R, p, bs, hE, rfl, hr3, hf3⟩)
  · have HE := Lib.hid hE
    have HF3 := Lib.hid (HF2.out.trans hf3)
    have hEi : (E == E) = true := beq_self_eq_true _
    clear hf3 hE
    go_wp2_with fail
    refine (Open9 a c l w3 hl HC.out (HB.out.keep HF3.out)).mono ?_
    rintro e w4 (⟨E', hE', rfl, hf4⟩ | ⟨kd, vr, sz, R, q, cs, hE', -, -, -⟩)
    · obtain rfl : E' = E := by rw [HE.out] at hE'; cases hE'; rfl
      have HF4 := Lib.hid (HF3.out.trans hf4)
      clear hf4 hE'
      go_wp2_with fail
      go_ret3
      exact .inl ⟨rfl, HF4.out⟩
    · exfalso
      rw [HE.out] at hE'
      cases hE'
  · have HE := Lib.hid hE
    have HF3 := Lib.hid (HF2.out.trans hf3)
    have HR3 := Lib.hid (hr3.base_le HF2.out.size)
    clear hf3 hE hr3
    go_wp2_with fail
    refine (Open9 a c l w3 hl HC.out (HB.out.keep HF3.out)).mono ?_
    rintro e w4 (⟨E', hE', -, -⟩ | ⟨kd', vr', sz', R', q, cs, hE', rfl, hm4, hf4⟩)
    · exfalso
      rw [HE.out] at hE'
      cases hE'
    · have HEQ : kd' = kd ∧ vr' = vr ∧ sz' = sz ∧ R' = R := by
        rw [HE.out] at hE'
        simpa [eq_comm] using hE'
      obtain ⟨rfl, rfl, rfl, rfl⟩ := HEQ
      have HF4 := Lib.hid (HF3.out.trans hf4)
      have HBO : Hid (Both w.heap.size w.heap.size w4 p q bs cs ⟨kd', vr', sz', 0, R'⟩ ⟨kd', vr', sz', 0, R'⟩) := Lib.hid ⟨HR3.out.keep hf4, hm4.base_le HF3.out.size, fun i hi hm => by have h1 := (HR3.out.lt i hi).2; have h2 := (hm4.lt i hm).1; omega⟩
      clear hf4 hE' hm4
      go_wp2_with fail
      go_ret3
      exact .inr ⟨kd', vr', sz', R', p, q, bs, cs, HE.out, rfl, HBO.out, HF4.out⟩
set_option maxHeartbeats 1600000 in
theorem sameInts10 (w : World) (B1 B2 n : Nat) (v1 v2 : Value) (L : List Nat) (h1 : w.ownsRow B1 3 1 v1 L.length (L.map fun (k : Nat) => Value.int .i64 k)) (h2 : w.ownsRow B2 3 1 v2 L.length (L.map fun (k : Nat) => Value.int .i64 k)) (hl : L.length ≤ 1000000) :
    Calls Tryd.prog 24 #[v1, v2] w fun e w' => e = .returned (.bool true) ∧ Fr [] w w' := by
  have H1 := Lib.hid h1
  have H2 := Lib.hid h2
  obtain ⟨a1, c1, rfl⟩ := own_slR h1
  obtain ⟨a2, c2, rfl⟩ := own_slR h2
  clear h1 h2
  obtain ⟨m, hm⟩ : ∃ m, m = L.length := ⟨_, rfl⟩
  rw [← hm] at H1 H2 hl ⊢
  have HM := Lib.hid hm
  clear hm
  go_enter Tryd.func24, Tryd.ntmps24
  go_wp2_with fail
  go_loopw [13] (fun i wr => ∃ k : Nat, k ≤ m ∧ i = .int .i64 k ∧ Fr [] w wr) (fun i _ => m - (intOf i).toNat)
  case atStart => exact ⟨0, by omega, rfl, Fr.refl _ _⟩
  case round =>
    obtain ⟨k, hk, rfl, hf⟩ := hrel
    have HF := Lib.hid hf
    clear hf
    by_cases hlt : k < m
    · obtain ⟨g1, c, e1, -, -, d1⟩ := own_intC (own_fr H1.out HF.out (by simp)) (k := k) (by rw [← HM.out]; exact hlt)
      simp only [Value.slice.injEq] at e1
      obtain ⟨rfl, -, -⟩ := e1
      obtain ⟨g2, c, e1, -, -, d2⟩ := own_intC (own_fr H2.out HF.out (by simp)) (k := k) (by rw [← HM.out]; exact hlt)
      simp only [Value.slice.injEq] at e1
      obtain ⟨rfl, -, -⟩ := e1
      generalize L.getD k 0 = x at d1 d2
      have hki : (k : Int) < (m : Int) := by omega
      have hk0 : (0 : Int) ≤ (k : Int) := by omega
      have e1 : IntKind.i64.wrap ((k : Int) + 1) = (k : Int) + 1 := IntWalk.i64_in _ (by omega)
      go_wp2_with fail
      go_quiet (fail)
      go_wp2
      go_roundw
      case rel => exact ⟨k + 1, by omega, by go_num, HF.out.drewN nq⟩
      case measure => simp [intOf] <;> omega
    · obtain rfl : m = k := by omega
      have hki : ¬ (m : Int) < (m : Int) := by omega
      go_wp2_with fail
      go_ret
      exact ⟨rfl, HF.out⟩
set_option maxRecDepth 100000 in
set_option maxHeartbeats 3200000 in
theorem blocksChecks_walk (a : Option Addr) (c : Nat) (l : List UInt8) (w : World) (hl : l.length ≤ 140737488351300) (hc : l.length ≤ c) (hno : a = none → c = 0) (hb : Bytes w a l) (hn : Nib w) :
    Calls Tryd.prog 5 #[.slice a l.length c] w fun e w' => e = .returned (.bool true) ∧ Fr [] w w' := by
  have HN := Lib.hid hn
  have HB := Lib.hid hb
  have HNO := Lib.hid hno
  have HC := Lib.hid hc
  clear hn hb hno hc
  go_enter Tryd.func5, Tryd.ntmps5
  go_wp2_with fail
  refine (speaks10 w).mono ?_
  rintro e w1 ⟨rfl, hf1⟩
  have HF1 := Lib.hid hf1
  clear hf1
  go_wp2_with fail
  refine (open10 a c l w1 hl HC.out HNO.out (HB.out.keep HF1.out) (nib_keep HN.out HF1.out)).mono ?_
  rintro e w2 (⟨rfl, hf2⟩ | ⟨kd, vr, sz, R, p, q, bs, cs, hE, rfl, hbo, hf2⟩)
  · have HF2 := Lib.hid (HF1.out.trans hf2)
    clear hf2
    go_wp2_with fail
    go_ret
    exact ⟨rfl, HF2.out⟩
  · have HF2 := Lib.hid (HF1.out.trans hf2)
    have HFB := Lib.hid (openB_back hE)
    have HBO := Lib.hid hbo
    clear hf2 hE hbo
    obtain ⟨s, hs⟩ : ∃ s : RFS, s = ⟨kd, vr, sz, 0, R⟩ := ⟨_, rfl⟩
    have HFS : Hid (fileB s.kd s.vr s.sz s.R = l) := Lib.hid (by rw [hs]; exact HFB.out)
    rw [← hs] at HBO
    clear hs HFB
    obtain ⟨E, hE⟩ : ∃ E, E = checkE s := ⟨_, rfl⟩
    have HC1 := Lib.hid (Check_F _ bs w2 p s HBO.out.f)
    have HC2 : Hid (∀ W, Fr [] w2 W → _) := Lib.hid (fun W (hW : Fr [] w2 W) => Check9 _ cs W q s (HBO.out.m.keep hW))
    rw [← hE] at HC1 HC2
    clear hE
    have hEi : (E == E) = true := beq_self_eq_true _
    go_wp2_with fail
    refine HC1.out.mono ?_
    rintro e w3 ⟨rfl, hf3⟩
    have HF3 := Lib.hid hf3
    clear hf3
    go_wp2_with fail
    refine (HC2.out w3 HF3.out).mono ?_
    rintro e w4 ⟨rfl, hf4⟩
    have HF4 := Lib.hid (HF3.out.trans hf4)
    have HBY := Lib.hid (Bytes_F _ bs w4 p s (HBO.out.f.keep HF4.out) (nib_keep HN.out (HF2.out.trans HF4.out)))
    rw [HFS.out] at HBY
    clear hf4
    go_wp2_with fail
    refine HBY.out.mono ?_
    rintro e w5 ⟨v, rfl, hv⟩
    obtain ⟨g5, c5, rfl, -, -, hb5, hf5⟩ := hv.bytes
    have HF5 := Lib.hid (HF2.out.trans (HF4.out.trans hf5))
    have HSM := Lib.hid (same_any (some ⟨g5, 0, none⟩) a c5 c l l w5 (fun h => by cases h) HNO.out hb5 (HB.out.keep HF5.out))
    rw [beq_self_eq_true] at HSM
    clear hv hb5 hf5 HBY
    go_wp2_with fail
    refine HSM.out.mono ?_
    rintro e w' ⟨rfl, rfl⟩
    go_wp2_with fail
    go_ret
    exact ⟨rfl, HF5.out⟩
end Go.Proofs.YtkcipbjikimlfaaDoor
