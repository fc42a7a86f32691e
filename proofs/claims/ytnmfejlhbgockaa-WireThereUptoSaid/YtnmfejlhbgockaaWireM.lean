/- The walk of the law WireReads. -/
import Derived.Test.YtnmfejlhbgockaaWireL
import Derived.Test.YtnmfejlhbgockaaWireArgs
namespace Go.Proofs.Ytnmfejlhbgockaa
open Go.RowKit
attribute [local go_sem] mulU256 wrapU_nat wrapU_I8 wrapU addU mulU remU divU byteU shrU I8_ne I8_eq U_eq U_ne

def rLeft (l : List UInt8) (q : Nat) (e : Int) : Int := if e ≠ 0 then 0 else (l.length : Int) - q
def rEnd (l : List UInt8) (q : Nat) (e : Int) : Int := if e = 0 ∧ q < l.length then 11 else e
theorem RdLeft_st (l : List UInt8) (p g q : Nat) (e : Int) (w : World) (h : RdSt w l p g q e) :
    Calls Try.prog 31 #[.pointer (some ⟨p, 0, none⟩)] w fun x w' => x = .returned (.int .i64 (rLeft l q e)) ∧ w = w' := by
  obtain ⟨⟨a, r, c, hr, h1, h2⟩, hle⟩ := h
  have e1 : rLeft l q e = (r : Int) := by
    unfold rLeft
    by_cases he : e = 0
    · obtain ⟨o, _, hr, _⟩ := h1 he
      rw [if_neg (by simpa using he)]; omega
    · rw [if_pos he, (h2 he).2.1]; rfl
  rw [e1]
  exact Left_any p a r c e w hr
theorem RdEnd_st (l : List UInt8) (p g q : Nat) (e : Int) (w : World) (h : RdSt w l p g q e) :
    Calls Try.prog 29 #[.pointer (some ⟨p, 0, none⟩)] w fun x w' => x = .returned (.int .i64 (rEnd l q e)) ∧ w = w' := by
  obtain ⟨⟨a, r, c, hr, h1, h2⟩, hle⟩ := h
  have e1 : rEnd l q e = (if e = 0 ∧ 0 < r then 11 else e) := by
    unfold rEnd
    by_cases he : e = 0
    · obtain ⟨o, _, hr, _⟩ := h1 he
      by_cases hq : q < l.length
      · rw [if_pos ⟨he, hq⟩, if_pos ⟨he, by omega⟩]
      · rw [if_neg (fun h => hq h.2), if_neg (by omega)]
    · rw [if_neg (fun h => he h.1), if_neg (fun h => he h.1)]
  rw [e1]
  exact End_any p a r c e w hr
theorem RdErr_st (l : List UInt8) (p g q : Nat) (e : Int) (w : World) (h : RdSt w l p g q e) :
    Calls Try.prog 33 #[.pointer (some ⟨p, 0, none⟩)] w fun x w' => x = .returned (.int .i64 e) ∧ w = w' := by
  obtain ⟨⟨a, r, c, hr, _⟩, _⟩ := h
  exact Err_any p _ e w hr
theorem rfLeft_st (a : Option Addr) (l : List UInt8) (c m q : Nat) (e : Int) (w : World) (h : Rf w m (.slice a l.length c) q e) (hq : q ≤ l.length) (hn : l.length ≤ 140737488351300) :
    Calls Try.prog 32 #[.pointer (some ⟨m, 0, none⟩)] w fun x w' => x = .returned (.int .i64 (rLeft l q e)) ∧ ∃ k, w' = w.drewN k := rfLeft_any a l.length c m q e w h hq hn
theorem rfEnd_st (a : Option Addr) (l : List UInt8) (c m q : Nat) (e : Int) (w : World) (h : Rf w m (.slice a l.length c) q e) :
    Calls Try.prog 30 #[.pointer (some ⟨m, 0, none⟩)] w fun x w' => x = .returned (.int .i64 (rEnd l q e)) ∧ Fr [] w w' := rfEnd_any a l.length c m q e w h
theorem Iee : I8 238 = 238 := by decide +kernel
/-- what a round keeps -/
structure RdsInv (w wr : World) (l : List UInt8) (sv : Value) (p m g q : Nat) (e : Int) : Prop where
  st : RdSt wr l p g q e
  rf : Rf wr m sv q e
  by_ : Bytes wr (some ⟨g, 0, none⟩) l
  fr : Fr [] w wr
theorem RdsInv.drewN {w wr : World} {l : List UInt8} {sv : Value} {p m g q : Nat} {e : Int} (h : RdsInv w wr l sv p m g q e) (n : Nat) : RdsInv w (wr.drewN n) l sv p m g q e :=
  ⟨h.st.fr ((Fr.refl [] _).drewN n) (by simp), h.rf, h.by_.keep ((Fr.refl [] _).drewN n), h.fr.drewN n⟩
theorem RdsInv.lts {w wr : World} {l : List UInt8} {sv : Value} {p m g q : Nat} {e : Int} (h : RdsInv w wr l sv p m g q e) : p < wr.heap.size ∧ m < wr.heap.size := by
  obtain ⟨⟨⟨_, _, _, hr, _⟩, _⟩, hm, _⟩ := h
  exact ⟨(Array.getElem?_eq_some_iff.1 hr).1, (Array.getElem?_eq_some_iff.1 hm).1⟩
/-- other blocks turn -/
theorem RdsInv.far {S : List Nat} {w wr w' : World} {l : List UInt8} {sv : Value} {p m g q : Nat} {e : Int} (h : RdsInv w wr l sv p m g q e) (hf : Fr S wr w') (hp : p ∉ S) (hm : m ∉ S) (hg : g ∉ S) (hlo : ∀ i ∈ S, w.heap.size ≤ i) : RdsInv w w' l sv p m g q e :=
  ⟨h.st.fr hf hp, hf.obj h.rf hm, h.by_.fr hf (.inr fun ad e => by cases e; exact hg), h.fr.next hf fun i hi hlt => absurd hlt (by have := hlo i hi; omega)⟩
theorem RdsInv.keep {w wr w' : World} {l : List UInt8} {sv : Value} {p m g q : Nat} {e : Int} (h : RdsInv w wr l sv p m g q e) (hf : Fr [] wr w') : RdsInv w w' l sv p m g q e :=
  ⟨h.st.fr hf (by simp), hf.obj h.rf (by simp), h.by_.keep hf, h.fr.trans hf⟩

set_option maxHeartbeats 1600000 in
theorem wireReads_walk (a : Option Addr) (c : Nat) (l : List UInt8) (sa : Option Addr) (sn sc : Nat) (F : Nat → OpV) (w : World) (hl : l.length ≤ 140737488351232) (hk : l.length ≤ c) (hno : a = none → c = 0) (hb : Bytes w a l) (hsn : sn ≤ 2932031007317) (hops : Ops w sa sn F) :
    Calls Try.prog 7 #[.slice a l.length c, .slice sa sn sc] w fun e w' => e = .returned (.bool true) ∧ Fr [] w w' := by
  have HNO := Lib.hid hno; clear hno
  have HK := Lib.hid hk; clear hk
  go_enter Try.func7, Try.ntmps7
  go_wp2_with fail
  refine (speaks_wire _).mono ?_
  rintro e w1 ⟨rfl, hf1⟩
  go_wp2_with fail
  refine (copy_any a c l w1 (by omega) (hb.keep hf1)).mono ?_
  rintro e w2 ⟨v, rfl, hfr⟩
  have F2 := hf1.trans hfr.got.2
  have hs2 := hfr.got.2.size
  obtain ⟨gi, ci, rfl, hgi, hlti, hbi, _⟩ := hfr.bytes
  have hown := hfr.got.1
  clear hfr
  go_wp2_with fail
  refine (NewReader_any ⟨gi, 0, none⟩ ci l w2 (by omega) hbi).mono ?_
  rintro e w3 ⟨p, g, cg, rfl, hrd, hcg, hbg, hgl, hgp, hpl, hf3⟩
  have HCG := Lib.hid hcg; clear hcg
  have F3 := F2.trans hf3
  go_wp2_with fail
  refine (same_yes (some ⟨gi, 0, none⟩) a ci c l w3 (by omega) (hbi.keep hf3) (hb.keep F3)).mono ?_
  rintro e w4 ⟨rfl, hf4⟩
  have F4 := F3.trans hf4
  have hrd4 := hf4.obj hrd (by simp)
  have hbg4 := hbg.keep hf4
  have hown4 := own_fr hown (hf3.trans hf4) (by simp)
  go_wp2_with fail
  have hsp := spoil_any w1.heap.size (.slice (some ⟨gi, 0, none⟩) l.length ci) l 238 w4 (by omega) hown4 (by have := hf3.size; have := hf4.size; omega)
  rw [Iee] at hsp
  refine hsp.mono ?_
  rintro e w5 ⟨rfl, _, hf5⟩
  have hrd5 := hf5.obj hrd4 (by simp [Value.ownBlock]; omega)
  have hbg5 := hbg4.fr hf5 (.inr fun ad e => by cases e; simp [Value.ownBlock]; omega)
  have F5 : Fr [] w w5 := F4.next hf5 (by intro i hi hlt; simp [Value.ownBlock] at hi; have := hf1.size; omega)
  have hp5 : p < w5.heap.size := by have := hf4.size; have := hf5.size; omega
  have hgw : w.heap.size ≤ g := by have := hf1.size; omega
  clear hsp hown hown4 hbg hbg4 hrd hrd4 hf1 hf3 hf4 hf5 F2 F3 F4 hbi hgi hlti hs2 hgl hpl
  obtain ⟨wB, hwB⟩ : ∃ wB, wB = w5.alloc (.cells #[.slice a l.length c, .int .i64 0, .int .i64 0] 58) := ⟨_, rfl⟩
  have HI : RdsInv w wB l (.slice a l.length c) p w5.heap.size g 0 0 := by
    rw [hwB]
    refine ⟨⟨⟨some ⟨g, 0, none⟩, l.length, cg, ?_, fun _ => ⟨0, rfl, by omega, HCG.out, fun _ => rfl⟩, fun h => absurd rfl h⟩, by omega⟩, heap_alloc_new w5 _, hbg5.keep ((Fr.refl _ _).alloc _), F5.alloc _⟩
    exact ((Fr.refl [] _).alloc _).obj hrd5 (by simp)
  obtain ⟨m, hm⟩ : ∃ m, m = w5.heap.size := ⟨_, rfl⟩
  have hmp : p < m := by omega
  go_wp2_with fail
  rw [← hm, ← hwB]
  rw [← hm] at HI
  clear hwB hm hrd5 hbg5 F5 hp5
  have HH := Lib.hid HI
  clear HI
  go_loopw [9, 10, 11, 12, 34] (fun _ _ _ _ i wr => ∃ (k q : Nat) (e : Int), k ≤ sn ∧ i = .int .i64 k ∧ RdsInv w wr l (.slice a l.length c) p m g q e) (fun _ _ _ _ i _ => sn - (intOf i).toNat)
  case atStart => exact ⟨0, 0, 0, by omega, rfl, HH.out⟩
  case round =>
    obtain ⟨k, q, e, hk, rfl, hinv⟩ := hrel
    have HI := Lib.hid hinv; clear hinv HH
    by_cases hlt : k < sn
    · obtain ⟨b, off, rfl, d0, d1, d2, d3⟩ := (hops.keep HI.out.fr).cell k hlt
      rw [← Nat.add_assoc] at d1 d2 d3
      have hok := (hops.keep HI.out.fr).ok k hlt
      generalize F k = o at d0 d1 d2 d3 hok
      obtain ⟨kd, wd, nm, oa, oc, od⟩ := o
      obtain ⟨wb, hwb⟩ : ∃ wb, wb = wr.alloc (.cells #[.int .i64 kd, .int .i64 wd, .int .u64 (U nm), .slice oa od.length oc] 50) := ⟨_, rfl⟩
      have HB := Lib.hid (show RdsInv w wb l (.slice a l.length c) p m g q e by rw [hwb]; exact HI.out.keep ((Fr.refl _ _).alloc _))
      have hx1 : wb.cell? ⟨wr.heap.size, 1, none⟩ = some (.int .i64 wd) := by rw [hwb]; exact cell_of_row _ _ 1 _ _ _ (heap_alloc_new wr _)
      have hlts := HI.out.lts
      have hbs : wb.heap.size = wr.heap.size + 1 := by rw [hwb]; simp
      by_cases hk0 : bits .and .i64 kd 3 = 0
      · have H1 := RdNum_any l p g q e wd wb HB.out.st (by omega) HB.out.by_ (by omega)
        go_wp2_with fail
        rw [← hwb]
        clear hwb
        refine H1.mono ?_
        rintro x wc ⟨rfl, hst, hf⟩
        clear H1
        have x1 := hf.cell hx1 (by simp; omega)
        have hfc : Fr [] w wc := HB.out.fr.next hf (by simp; omega)
        have hrc := hf.obj HB.out.rf (by simp; omega)
        have hbc := HB.out.by_.fr hf (.inr fun ad e => by cases e; simp; omega)
        have H2 := rfNum_any a c m q e wd l wc HNO.out hrc (hb.keep hfc) (by omega) HK.out HB.out.st.le
        go_wp2_with fail
        refine H2.mono ?_
        rintro x wd' ⟨rfl, hrf, hf2⟩
        clear H2
        have hinv2 : RdsInv w wd' l (.slice a l.length c) p m g (rAt l (isWd wd) q e wd) (rErr l (isWd wd) q e wd) := ⟨hst.fr hf2 (by simp; omega), hrf, hbc.fr hf2 (.inr fun ad e => by cases e; simp; omega), hfc.next hf2 (by simp; omega)⟩
        clear hst hrf hbc hfc hrc hf hf2 x1
        generalize rAt l (isWd wd) q e wd = q2 at hinv2
        generalize rErr l (isWd wd) q e wd = e2 at hinv2
        have HI2 := Lib.hid hinv2
        have r2 := hinv2.rf.c2
        clear hinv2
        go_wp2_with fail
        go_quiet (first
          | (go_at_call 31; exact Calls.quiet_of_same ((RdLeft_st l p g q2 e2 _ (HI2.out.drewN _).st).mono fun _ _ h => ⟨h.1, h.2.symm⟩))
          | (go_at_call 32; exact Calls.quiet_of (rfLeft_st a l c m q2 e2 _ (HI2.out.drewN _).rf HI2.out.st.le (by omega)))
          | (go_at_call 33; exact Calls.quiet_of_same ((RdErr_st l p g q2 e2 _ (HI2.out.drewN _).st).mono fun _ _ h => ⟨h.1, h.2.symm⟩)))
        go_wp2
        go_roundw
        case rel => exact ⟨k + 1, q2, e2, by omega, by go_num, HI2.out.drewN nq⟩
        case measure => simp [intOf] <;> omega
      by_cases hk1 : bits .and .i64 kd 3 = 1
      · have H1 := RdNum_any l p g q e wd wb HB.out.st (by omega) HB.out.by_ (by omega)
        go_wp2_with fail
        rw [← hwb]
        clear hwb
        refine H1.mono ?_
        rintro x wc ⟨rfl, hst, hf⟩
        clear H1
        have x1 := hf.cell hx1 (by simp; omega)
        have hfc : Fr [] w wc := HB.out.fr.next hf (by simp; omega)
        have hrc := hf.obj HB.out.rf (by simp; omega)
        have hbc := HB.out.by_.fr hf (.inr fun ad e => by cases e; simp; omega)
        have H2 := rfNum_any a c m q e wd l wc HNO.out hrc (hb.keep hfc) (by omega) HK.out HB.out.st.le
        go_wp2_with fail
        refine H2.mono ?_
        rintro x wd' ⟨rfl, hrf, hf2⟩
        clear H2
        have hinv2 : RdsInv w wd' l (.slice a l.length c) p m g (rAt l (isWd wd) q e wd) (rErr l (isWd wd) q e wd) := ⟨hst.fr hf2 (by simp; omega), hrf, hbc.fr hf2 (.inr fun ad e => by cases e; simp; omega), hfc.next hf2 (by simp; omega)⟩
        clear hst hrf hbc hfc hrc hf hf2 x1
        generalize rAt l (isWd wd) q e wd = q2 at hinv2
        generalize rErr l (isWd wd) q e wd = e2 at hinv2
        have HI2 := Lib.hid hinv2
        have r2 := hinv2.rf.c2
        clear hinv2
        go_wp2_with fail
        go_quiet (first
          | (go_at_call 31; exact Calls.quiet_of_same ((RdLeft_st l p g q2 e2 _ (HI2.out.drewN _).st).mono fun _ _ h => ⟨h.1, h.2.symm⟩))
          | (go_at_call 32; exact Calls.quiet_of (rfLeft_st a l c m q2 e2 _ (HI2.out.drewN _).rf HI2.out.st.le (by omega)))
          | (go_at_call 33; exact Calls.quiet_of_same ((RdErr_st l p g q2 e2 _ (HI2.out.drewN _).st).mono fun _ _ h => ⟨h.1, h.2.symm⟩)))
        go_wp2
        go_roundw
        case rel => exact ⟨k + 1, q2, e2, by omega, by go_num, HI2.out.drewN nq⟩
        case measure => simp [intOf] <;> omega
      by_cases hk2 : bits .and .i64 kd 3 = 2
      · have H1 := RdRaw_any l p g q e wd wb HB.out.st (by omega) HB.out.by_ (by omega)
        go_wp2_with fail
        rw [← hwb]
        clear hwb
        refine H1.mono ?_
        rintro x wc ⟨v, rfl, hown, hst, hf⟩
        clear H1
        have x1 := hf.cell hx1 (by simp; omega)
        have hfc : Fr [] w wc := HB.out.fr.next hf (by simp; omega)
        have hrc := hf.obj HB.out.rf (by simp; omega)
        have hbc := HB.out.by_.fr hf (.inr fun ad e => by cases e; simp; omega)
        have H2 := rfRaw_any a c m q e wd l wc HNO.out hrc (hb.keep hfc) (by omega) HK.out HB.out.st.le
        go_wp2_with fail
        refine H2.mono ?_
        rintro x wd' ⟨v2, rfl, hown2, hrf, hf2⟩
        clear H2
        have hvlo : ∀ i, v.ownBlock = some i → wb.heap.size ≤ i := fun i hi => (own_lt hown hi).1
        have hown' := own_fr hown hf2 (by intro i hi; have := hvlo i hi; simp; omega)
        have hinv2 : RdsInv w wd' l (.slice a l.length c) p m g (rAt l true q e wd) (rErr l true q e wd) := ⟨hst.fr hf2 (by simp; omega), hrf, hbc.fr hf2 (.inr fun ad e => by cases e; simp; omega), hfc.next hf2 (by simp; omega)⟩
        have hlt := rTake_length l true q e wd
        generalize rTake l true q e wd = T at hown hown' hown2 hlt
        generalize rAt l true q e wd = q2 at hinv2
        generalize rErr l true q e wd = e2 at hinv2
        have HT := Lib.hid hlt
        have hfsz := hf.size
        have hf2sz := hf2.size
        clear hst hrf hbc hfc hrc hf hf2 x1 hlt hown
        have HW := Lib.hid hown'
        have HI3 := Lib.hid hinv2
        have HS := Lib.hid hf2sz
        have HS2 := Lib.hid hfsz
        have H3 := same_own _ _ v v2 T wd' (by have := HT.out; omega) hown' hown2
        clear hown' hown2 hinv2 hf2sz hfsz
        go_wp2_with fail
        refine H3.mono ?_
        rintro x we ⟨rfl, hf4⟩
        clear H3
        have H4 := spoil_any wb.heap.size v T 238 we (by have := HT.out; omega) (own_fr HW.out hf4 (by simp)) (by have := hf4.size; have := HS.out; have := HS2.out; omega)
        rw [Iee] at H4
        go_wp2_with fail
        refine H4.mono ?_
        rintro x wf ⟨rfl, _, hf5⟩
        have hinv2 := (HI3.out.keep hf4).far hf5 (by intro hi; have := hvlo _ (by simpa using hi); omega) (by intro hi; have := hvlo _ (by simpa using hi); omega) (by intro hi; have := hvlo _ (by simpa using hi); omega) (by intro i hi; have := hvlo i (by simpa using hi); have := HB.out.fr.size; omega)
        clear H4 hf5 hf4 hvlo
        have HI2 := Lib.hid hinv2
        have r2 := hinv2.rf.c2
        clear hinv2
        go_wp2_with fail
        go_quiet (first
          | (go_at_call 31; exact Calls.quiet_of_same ((RdLeft_st l p g q2 e2 _ (HI2.out.drewN _).st).mono fun _ _ h => ⟨h.1, h.2.symm⟩))
          | (go_at_call 32; exact Calls.quiet_of (rfLeft_st a l c m q2 e2 _ (HI2.out.drewN _).rf HI2.out.st.le (by omega)))
          | (go_at_call 33; exact Calls.quiet_of_same ((RdErr_st l p g q2 e2 _ (HI2.out.drewN _).st).mono fun _ _ h => ⟨h.1, h.2.symm⟩)))
        go_wp2
        go_roundw
        case rel => exact ⟨k + 1, q2, e2, by omega, by go_num, HI2.out.drewN nq⟩
        case measure => simp [intOf] <;> omega
      · have H1 := RdEnd_st l p g q e wb HB.out.st
        go_wp2_with fail
        rw [← hwb]
        clear hwb
        refine H1.mono ?_
        rintro x wc ⟨rfl, rfl⟩
        clear H1
        have H2 := rfEnd_st a l c m q e wb HB.out.rf
        go_wp2_with fail
        refine H2.mono ?_
        rintro x wd' ⟨rfl, hf2⟩
        clear H2
        have hinv2 := HB.out.keep hf2
        clear hf2
        obtain ⟨q2, hq2⟩ : ∃ q2, q2 = q := ⟨_, rfl⟩
        obtain ⟨e2, he2⟩ : ∃ e2, e2 = e := ⟨_, rfl⟩
        rw [← hq2, ← he2] at hinv2
        clear hq2 he2
        have HI2 := Lib.hid hinv2
        have r2 := hinv2.rf.c2
        clear hinv2
        go_wp2_with fail
        go_quiet (first
          | (go_at_call 31; exact Calls.quiet_of_same ((RdLeft_st l p g q2 e2 _ (HI2.out.drewN _).st).mono fun _ _ h => ⟨h.1, h.2.symm⟩))
          | (go_at_call 32; exact Calls.quiet_of (rfLeft_st a l c m q2 e2 _ (HI2.out.drewN _).rf HI2.out.st.le (by omega)))
          | (go_at_call 33; exact Calls.quiet_of_same ((RdErr_st l p g q2 e2 _ (HI2.out.drewN _).st).mono fun _ _ h => ⟨h.1, h.2.symm⟩)))
        go_wp2
        go_roundw
        case rel => exact ⟨k + 1, q2, e2, by omega, by go_num, HI2.out.drewN nq⟩
        case measure => simp [intOf] <;> omega
    · have HI2 := Lib.hid HI.out
      go_wp2_with fail
      refine (RdEnd_st l p g q e wr HI.out.st).mono ?_
      rintro x wc ⟨rfl, rfl⟩
      go_wp2_with fail
      refine (rfEnd_st a l c m q e wr HI.out.rf).mono ?_
      rintro x wd' ⟨rfl, hf2⟩
      go_wp2
      go_ret
      exact ⟨by simp, HI.out.fr.trans hf2⟩
end Go.Proofs.Ytnmfejlhbgockaa
