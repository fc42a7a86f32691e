/- Record files: is there a byte that isn't nought? -/
import Derived.Test.YtlckhfjkdahfpaaDoorRfF
import Derived.Test.YtlckhfjkdahfpaaDoorLate
namespace Go.Proofs.YtlckhfjkdahfpaaDoor
open Go.RowKit
attribute [local go_sem ↓] Go.wp_at_zero Go.wp_at_succ
theorem Nonz_F (x : UInt8) (w : World) : Calls Tryd.prog 55 #[.int .u8 (I8 x)] w fun e w' => e = .returned (.bool (x != 0)) ∧ w = w' := by
  have h0 : (I8 x != 0) = (x != 0) := by
    have := I8_ne x 0
    rwa [show I8 0 = 0 by decide +kernel] at this
  go_enter Tryd.func55, Tryd.ntmps55
  go_wp2
  go_ret
  exact ⟨rfl, rfl⟩
theorem any_not {l : List UInt8} (h : ∀ j, j < l.length → l.getD j 0 = 0) : l.any (· != 0) = false := by
  rw [List.any_eq_false]
  intro x hx
  obtain ⟨j, hj, rfl⟩ := List.mem_iff_getElem.1 hx
  have := h j hj
  rw [List.getD_eq_getElem?_getD, List.getElem?_eq_getElem hj] at this
  simpa using this
theorem any_yes {l : List UInt8} {k : Nat} (hk : k < l.length) (h : (l.getD k 0 != 0) = true) : l.any (· != 0) = true := by
  rw [List.any_eq_true]
  refine ⟨l[k], List.getElem_mem _, ?_⟩
  rwa [List.getD_eq_getElem?_getD, List.getElem?_eq_getElem hk] at h
set_option maxRecDepth 100000 in
theorem IndexFunc_F (a : Option Addr) (c : Nat) (l : List UInt8) (w : World) (hl : l.length ≤ 140737488351300) (hb : Bytes w a l) :
    Calls Tryd.prog 73 #[.slice a l.length c, .func (.func 55) #[] #[]] w fun e w' => ∃ z : Int, e = .returned (.int .i64 z) ∧ decide (0 ≤ z) = l.any (· != 0) ∧ w = w' := by
  have HB := Lib.hid hb
  clear hb
  go_enter Tryd.func73, Tryd.ntmps73
  go_wp2_with fail
  go_loopw [8] (fun i wr => ∃ k : Nat, k ≤ l.length ∧ i = .int .i64 k ∧ (∀ j, j < k → l.getD j 0 = 0) ∧ w = wr) (fun i _ => l.length - (intOf i).toNat)
  case atStart => exact ⟨0, by omega, rfl, fun j h => absurd h (by omega), rfl⟩
  case round =>
    obtain ⟨k, hk, rfl, hz, rfl⟩ := hrel
    by_cases hlt : k < l.length
    · obtain ⟨b, o, rfl, hcs⟩ := HB.out.at (by omega)
      have hc := hcs k hlt
      have hki : (k : Int) < (l.length : Int) := by omega
      have hki0 : (0 : Int) ≤ (k : Int) := by omega
      have HZ := Lib.hid hz
      obtain ⟨x, hx⟩ : ∃ x, x = l.getD k 0 := ⟨_, rfl⟩
      rw [← hx] at hc
      have HX := Lib.hid hx
      clear hcs hz hx
      unfold B8 at hc
      go_wp2_with fail
      refine (Nonz_F x w).mono ?_
      rintro e w' ⟨rfl, rfl⟩
      cases hz : (x != 0) with
      | true =>
        go_wp2
        go_ret
        refine ⟨(k : Int), rfl, ?_, rfl⟩
        rw [any_yes hlt (by rw [← HX.out]; exact hz)]
        exact decide_eq_true (by omega)
      | false =>
        go_wp2
        go_roundw
        case rel =>
          refine ⟨k + 1, by omega, by go_num, fun j hj => ?_, by simp⟩
          by_cases h : j < k
          · exact HZ.out j h
          · obtain rfl : j = k := by omega
            rw [← HX.out]
            simpa using hz
        case measure => simp [intOf] <;> omega
    · have HZ := Lib.hid (any_not (l := l) fun j hj => hz j (by omega))
      clear hz
      go_wp2
      go_ret
      refine ⟨-1, rfl, ?_, rfl⟩
      rw [HZ.out]
      rfl
theorem ContainsFunc_F (a : Option Addr) (c : Nat) (l : List UInt8) (w : World) (hl : l.length ≤ 140737488351300) (hb : Bytes w a l) :
    Calls Tryd.prog 54 #[.slice a l.length c, .func (.func 55) #[] #[]] w fun e w' => e = .returned (.bool (l.any (· != 0))) ∧ w = w' := by
  have HI := Lib.hid (IndexFunc_F a c l w hl hb)
  clear hb
  go_enter Tryd.func54, Tryd.ntmps54
  go_wp2_with fail
  refine HI.out.mono ?_
  rintro e w' ⟨z, rfl, hz, rfl⟩
  have HZ := Lib.hid hz
  clear hz
  go_wp2
  go_ret
  exact ⟨ret_bool HZ.out, rfl⟩
end Go.Proofs.YtlckhfjkdahfpaaDoor

/- Record files: the head of a file's bytes. -/
namespace Go.Proofs.YtlckhfjkdahfpaaDoor
open Go.RowKit
attribute [local go_sem ↓] Go.wp_at_zero Go.wp_at_succ
/-- the error that a head shows -/
def hdE (b : List UInt8) : Int :=
  if (b.take 4 == magicB) = false then 90
  else if (BitVec.ofNat 32 (hN b 12 4) == sm (b.take 12)) = false then 91
  else if hN b 6 2 < 2 ∨ 255 < hN b 6 2 then 4
  else if 65536 < hN b 8 4 ∨ b.length ≠ 16 + hN b 8 4 * hN b 6 2 then 92
  else 0
theorem hdE_open {b : List UInt8} (h : ¬ b.length < 16) (he : hdE b ≠ 0) : openB b = .error (hdE b) := by
  unfold hdE at he ⊢
  unfold openB
  rw [if_neg h]
  split at he
  · rename_i h1; rw [if_pos h1, if_pos h1]
  rename_i h1
  rw [if_neg h1, if_neg h1]
  split at he
  · rename_i h2; rw [if_pos h2, if_pos h2]
  rename_i h2
  rw [if_neg h2, if_neg h2]
  split at he
  · rename_i h3; rw [if_pos h3, if_pos h3]
  rename_i h3
  rw [if_neg h3, if_neg h3]
  split at he
  · rename_i h4; rw [if_pos h4, if_pos h4]
  · exact absurd rfl he
theorem hdE_ok {b : List UInt8} (h : ¬ b.length < 16) (he : hdE b = 0) : openB b = fileOf (hN b 4 1) (hN b 5 1) (hN b 6 2) (readR (hN b 6 2) (hN b 8 4) (b.drop 16)) ∧ 2 ≤ hN b 6 2 ∧ hN b 6 2 ≤ 255 ∧ hN b 8 4 ≤ 65536 ∧ b.length = 16 + hN b 8 4 * hN b 6 2 := by
  unfold hdE at he
  split at he
  · cases he
  split at he
  · cases he
  split at he
  · cases he
  split at he
  · cases he
  rename_i h1 h2 h3 h4
  refine ⟨?_, by omega, by omega, by omega, by omega⟩
  unfold openB
  rw [if_neg h, if_neg h1, if_neg h2, if_neg h3, if_neg h4]
theorem hN_nm (b : List UInt8) (p n m : Nat) (h : p + n ≤ m) : nm (b.take m) p n = hN b p n := by
  unfold nm hN
  rw [List.drop_take, List.take_take, Nat.min_eq_left (by omega)]
/-- what head gives -/
def HeadG (w w' : World) (e : Ending) (l : List UInt8) : Prop :=
  ∃ p, e = .returned (.tuple #[.pointer (some ⟨p, 0, none⟩), .int .i64 (hN l 8 4 : Nat), .int .i64 (hdE l)]) ∧ w'.heap[p]? = some (.cells #[.int .i64 (hN l 4 1 : Nat), .int .i64 (hN l 5 1 : Nat), .int .i64 (hN l 6 2 : Nat), .slice none 0 0, .int .i64 0, .int .i64 0] 93) ∧ w.heap.size ≤ p ∧ Fr [] w w'
theorem head_short (a : Option Addr) (c : Nat) (l : List UInt8) (w : World) (h : l.length < 16) :
    Calls Tryd.prog 52 #[.slice a l.length c] w fun e w' => e = .returned (.tuple #[.pointer none, .int .i64 0, .int .i64 10]) ∧ w = w' := by
  have hd : (l.length : Int) < 16 := by omega
  go_enter Tryd.func52, Tryd.ntmps52
  go_wp2
  go_ret3
  exact ⟨rfl, rfl⟩
set_option maxRecDepth 100000 in
set_option maxHeartbeats 3200000 in
theorem head_F (a : Option Addr) (c : Nat) (l : List UInt8) (w : World) (hl : l.length ≤ 140737488351300) (h16 : ¬ l.length < 16) (hc : l.length ≤ c) (hb : Bytes w a l) (hn : Nib w) :
    Calls Tryd.prog 52 #[.slice a l.length c] w fun e w' => HeadG w w' e l := by
  have HN := Lib.hid hn
  have HB := Lib.hid hb
  obtain ⟨ab, ao, rfl, -⟩ := hb.at (by omega)
  obtain ⟨l16, hl16⟩ : ∃ l16, l16 = l.take 16 := ⟨_, rfl⟩
  have hlen16 : l16.length = 16 := by rw [hl16, List.length_take]; omega
  have HL16 := Lib.hid hl16
  have HLEN := Lib.hid hlen16
  have hb16 : Bytes w (some ⟨ab, ao, none⟩) l16 := by
    have := hb.sub 0 16 (by omega)
    rwa [List.drop_zero, ← hl16] at this
  have hNR := NewR (some ⟨ab, ao, none⟩) c l16 w (by omega) (by omega) hb16
  rw [hlen16] at hNR
  have HNR := Lib.hid hNR
  have hd : ¬ (l.length : Int) < 16 := by omega
  have hc16 : (16 : Int) ≤ (c : Int) := by omega
  have hc12 : (12 : Int) ≤ (c : Int) := by omega
  clear hb hn hl16 hlen16 hb16 hNR
  go_enter Tryd.func52, Tryd.ntmps52
  go_wp2_with fail
  refine HNR.out.mono ?_
  rintro e w1 ⟨p, g, rfl, hr, hpg, hgp, hf1⟩
  have HR1 := Lib.hid hr
  have HF1 := Lib.hid hf1
  have HPG := Lib.hid hpg
  have HGP := Lib.hid hgp
  clear hr hpg hgp hf1 HNR
  go_wp2_with fail
  refine (RawR w1 p g l16 0 4 HR1.out (by have := HLEN.out; omega) (by have := HLEN.out; omega)).mono ?_
  rintro e w2 ⟨v, rfl, ho, hr, hf⟩
  rw [List.drop_zero] at ho
  have h44 : (l16.take 4).length = 4 := by rw [List.length_take, HLEN.out]; rfl
  obtain ⟨va, vc, rfl⟩ := own_slR ho
  have hk := conv_any va vc (l16.take 4) w2 (spl_none ho) (by
    obtain ⟨a', c', e1, h1, h2, _⟩ := Bytes.of_own ho
    simp only [Value.slice.injEq] at e1
    rw [e1.1]
    exact h1)
  rw [h44] at hk ⊢
  have HR2 := Lib.hid hr
  have HF2 := Lib.hid hf
  clear ho hr hf h44
  have hk1 := nm_le1 l16 4
  have hk2 := nm_le1 l16 5
  have hk3 := nm_le l16 6 2 (by omega)
  have hk4 := nm_le l16 8 4 (by omega)
  have hk5 := nm_le l16 12 4 (by omega)
  have z1 : IntKind.i64.wrap ((nm l16 4 1 : Nat) : Int) = (nm l16 4 1 : Nat) := IntWalk.i64_in _ (by omega)
  have z2 : IntKind.i64.wrap ((nm l16 5 1 : Nat) : Int) = (nm l16 5 1 : Nat) := IntWalk.i64_in _ (by omega)
  have z3 : IntKind.i64.wrap ((nm l16 6 2 : Nat) : Int) = (nm l16 6 2 : Nat) := IntWalk.i64_in _ (by omega)
  have z4 : IntKind.i64.wrap ((nm l16 8 4 : Nat) : Int) = (nm l16 8 4 : Nat) := IntWalk.i64_in _ (by omega)
  go_wp2_with fail
  refine (NumR w2 p g l16 4 1 HR2.out (by have := HLEN.out; omega) (by unfold Wd; omega) (by omega) (by have := HLEN.out; omega)).mono ?_
  rintro e w3 ⟨rfl, hr, hf⟩
  have HR3 := Lib.hid hr
  have HF3 := Lib.hid (HF2.out.trans hf)
  clear hr hf hk
  go_wp2_with fail
  refine (NumR w3 p g l16 5 1 HR3.out (by have := HLEN.out; omega) (by unfold Wd; omega) (by omega) (by have := HLEN.out; omega)).mono ?_
  rintro e w4 ⟨rfl, hr, hf⟩
  have HR4 := Lib.hid hr
  have HF4 := Lib.hid (HF3.out.trans hf)
  clear hr hf
  go_wp2_with fail
  refine (NumR w4 p g l16 6 2 HR4.out (by have := HLEN.out; omega) (by unfold Wd; omega) (by omega) (by have := HLEN.out; omega)).mono ?_
  rintro e w5 ⟨rfl, hr, hf⟩
  have HR5 := Lib.hid hr
  have HF5 := Lib.hid (HF4.out.trans hf)
  clear hr hf
  obtain ⟨w6, hw6⟩ : ∃ w6, w6 = w5.alloc (.cells #[.int .i64 (nm l16 4 1 : Nat), .int .i64 (nm l16 5 1 : Nat), .int .i64 (nm l16 6 2 : Nat), .slice none 0 0, .int .i64 0, .int .i64 0] 93) := ⟨_, rfl⟩
  go_upto_region 6 with fail
  rw [← hw6]
  have hf6 : Fr [] w5 w6 := by rw [hw6]; exact (Fr.refl _ _).alloc _
  have hb6 : w6.heap[w5.heap.size]? = some (.cells #[.int .i64 (nm l16 4 1 : Nat), .int .i64 (nm l16 5 1 : Nat), .int .i64 (nm l16 6 2 : Nat), .slice none 0 0, .int .i64 0, .int .i64 0] 93) := by rw [hw6]; exact heap_alloc_new w5 _
  have hF : w1.heap.size ≤ w5.heap.size := HF5.out.size
  obtain ⟨F, hFd⟩ : ∃ F, F = w5.heap.size := ⟨_, rfl⟩
  rw [← hFd] at hb6 hF ⊢
  have hpF : p < F := by rw [hFd]; exact HR5.out.lt
  have HR6 := Lib.hid (HR5.out.fr hf6 (by simp) (by simp))
  have HF6 := Lib.hid (HF5.out.trans (hf6.mono (by simp)))
  have HB6 := Lib.hid hb6
  have HWF := Lib.hid (Nat.le_trans HF1.out.size hF)
  clear hw6 hf6 hb6 hFd hF z1 z2 z3 HR2 HR3 HR4 HF2 HF3 HF4
  go_wp2_with fail
  refine (NumR w6 p g l16 8 4 HR6.out (by have := HLEN.out; omega) (by unfold Wd; omega) (by omega) (by have := HLEN.out; omega)).mono ?_
  rintro e w7 ⟨rfl, hr, hf⟩
  have HR7 := Lib.hid hr
  have HF7 := Lib.hid (HF6.out.trans hf)
  have HB7 := Lib.hid (hf.obj HB6.out (by simp; omega))
  clear hr hf
  have hnm : ∀ q n, q + n ≤ 16 → hN l q n = nm l16 q n := fun q n h => by rw [HL16.out, hN_nm l q n 16 h]
  have ht4 : l.take 4 = l16.take 4 := by rw [HL16.out, List.take_take]; rfl
  have HED : Hid (hdE l = if (l16.take 4 == magicB) = false then 90 else if (BitVec.ofNat 32 (nm l16 12 4) == sm (l.take 12)) = false then 91 else if nm l16 6 2 < 2 ∨ 255 < nm l16 6 2 then 4 else if 65536 < nm l16 8 4 ∨ l.length ≠ 16 + nm l16 8 4 * nm l16 6 2 then 92 else 0) := Lib.hid (by
    unfold hdE
    rw [ht4, hnm 12 4 (by omega), hnm 6 2 (by omega), hnm 8 4 (by omega)])
  have HFIN : Hid (∀ (E : Int) (w' : World), hdE l = E → w'.heap[F]? = some (.cells #[.int .i64 (nm l16 4 1 : Nat), .int .i64 (nm l16 5 1 : Nat), .int .i64 (nm l16 6 2 : Nat), .slice none 0 0, .int .i64 0, .int .i64 0] 93) → Fr [p] w1 w' → HeadG w w' (.returned (.tuple #[.pointer (some ⟨F, 0, none⟩), .int .i64 (nm l16 8 4 : Nat), .int .i64 E])) l) := Lib.hid fun E w' hE ho hf => by
    refine ⟨F, ?_, ?_, HWF.out, HF1.out.next hf ?_⟩
    · rw [hnm 8 4 (by omega), hE]
    · rw [hnm 4 1 (by omega), hnm 5 1 (by omega), hnm 6 2 (by omega)]; exact ho
    · intro i hi hlt
      simp at hi
      have := HPG.out
      have := HGP.out
      omega
  have hms := magic_str
  clear ht4 hnm
  cases hm : (l16.take 4 == magicB) with
  | false =>
    have hE : hdE l = 90 := by rw [HED.out, if_pos hm]
    have HE := Lib.hid hE
    clear hE
    go_wp2_with fail
    go_ret3
    exact HFIN.out 90 w7 HE.out HB7.out HF7.out
  | true =>
    have z5 : IntKind.u32.wrap ((nm l16 12 4 : Nat) : Int) = I32 (BitVec.ofNat 32 (nm l16 12 4)) := by rw [wrap32_in _ (by omega) (by omega), I32_ofNat _ hk5]
    have HNM : Hid (Calls Tryd.prog 71 #[.pointer (some ⟨p, 0, none⟩), .int .i64 4] w7.drew fun x w' => x = .returned (.int .u64 (nm l16 12 4 : Nat)) ∧ w'.heap[F]? = some (.cells #[.int .i64 (nm l16 4 1 : Nat), .int .i64 (nm l16 5 1 : Nat), .int .i64 (nm l16 6 2 : Nat), .slice none 0 0, .int .i64 0, .int .i64 0] 93) ∧ Fr [p] w7 w') := Lib.hid ((NumR w7.drew p g l16 12 4 (HR7.out.fr ((Fr.refl [] w7).drew) (by simp) (by simp)) (by have := HLEN.out; omega) (by unfold Wd; omega) (by omega) (by have := HLEN.out; omega)).mono fun x w' ⟨h1, _, h3⟩ => ⟨h1, h3.obj HB7.out (by simp; omega), ((Fr.refl _ w7).drew).trans h3⟩)
    have habw : ab < w.heap.size := by
      obtain ⟨b, o, e, hc⟩ := HB.out.at (by omega)
      cases e
      exact World.block_lt_of_cell? w _ (hc 0 (by omega))
    have HSM : Hid (∀ W, Fr [p] w7 W → Calls Tryd.prog 61 #[.slice (some ⟨ab, ao, none⟩) 12 c] W fun e w' => e = .returned (.int .u32 (I32 (sm (l.take 12)))) ∧ W = w') := Lib.hid fun W hW => by
      have hfw : Fr [] w W := HF1.out.next (HF7.out.trans hW) (by intro i hi hlt; simp at hi; have := HPG.out; have := HGP.out; omega)
      have hb12 := (HB.out.keep hfw).sub 0 12 (by omega)
      rw [List.drop_zero, Nat.add_zero] at hb12
      exact sum_any (some ⟨ab, ao, none⟩) 12 c (l.take 12) W (by rw [List.length_take]; omega) (by omega) hb12 (nib_keep HN.out hfw)
    clear hk1 hk2 hk4 hk5 habw
    have hI := I32_ne (BitVec.ofNat 32 (nm l16 12 4)) (sm (l.take 12))
    go_upto_region 9 with fail
    clear hms
    go_cut [33] (fun v wx => v = .bool (BitVec.ofNat 32 (nm l16 12 4) != sm (l.take 12)) ∧ wx.heap[F]? = some (.cells #[.int .i64 (nm l16 4 1 : Nat), .int .i64 (nm l16 5 1 : Nat), .int .i64 (nm l16 6 2 : Nat), .slice none 0 0, .int .i64 0, .int .i64 0] 93) ∧ Fr [p] w1 wx)
    case first =>
      go_region_held3 (fun w' => True)
        (trivial)
        (first
          | (go_at_call 71; (with_reducible refine HNM.out.mono ?_); rintro e wA ⟨rfl, hA, hA2⟩)
          | (go_at_call 61; (with_reducible refine (HSM.out _ ((Fr.refl _ w7).drew)).mono ?_); rintro e wB ⟨rfl, rfl⟩)
          | (go_at_call 61; (with_reducible refine (HSM.out _ hA2).mono ?_); rintro e wB ⟨rfl, rfl⟩))
      all_goals go_wp2_with fail
      all_goals go_meet
      all_goals exact ⟨rfl, hA, HF7.out.trans hA2⟩
    case rest =>
      obtain ⟨rfl, hbF, hfF⟩ := hcut
      obtain ⟨x0, x1, x2, x3, x4, x5⟩ := six hbF
      have HBF := Lib.hid hbF
      have HFF := Lib.hid hfF
      clear hbF hfF HNM HSM z5 hI z4
      generalize hbb : (BitVec.ofNat 32 (nm l16 12 4) != sm (l.take 12)) = bb
      cases bb with
      | true =>
        have hs : (BitVec.ofNat 32 (nm l16 12 4) == sm (l.take 12)) = false := by unfold bne at hbb; simpa using hbb
        clear hbb
        have HE : Hid (hdE l = 91) := Lib.hid (by rw [HED.out, if_neg (by rw [hm]; simp), if_pos hs])
        clear hs hm
        go_wp2_with fail
        go_ret3
        exact HFIN.out 91 wc HE.out HBF.out HFF.out
      | false =>
        have hs : (BitVec.ofNat 32 (nm l16 12 4) == sm (l.take 12)) = true := by unfold bne at hbb; simpa using hbb
        clear hbb
        have HE2 : Hid (hdE l = if nm l16 6 2 < 2 ∨ 255 < nm l16 6 2 then 4 else if 65536 < nm l16 8 4 ∨ l.length ≠ 16 + nm l16 8 4 * nm l16 6 2 then 92 else 0) := Lib.hid (by rw [HED.out, if_neg (by rw [hm]; simp), if_neg (by rw [hs]; simp)])
        obtain ⟨S, hS⟩ : ∃ S, S = nm l16 6 2 := ⟨_, rfl⟩
        obtain ⟨C, hC⟩ : ∃ C, C = nm l16 8 4 := ⟨_, rfl⟩
        have HS := Lib.hid hS
        have HC := Lib.hid hC
        rw [← hS] at x2 hk3
        rw [← hS, ← hC] at HE2
        rw [← hC]
        have hk4 := nm_le l16 8 4 (by omega)
        rw [← hC] at hk4
        clear hs hm hS hC HED
        by_cases h1 : S < 2
        · have HE : Hid (hdE l = 4) := Lib.hid (by rw [HE2.out, if_pos (.inl h1)])
          have h1i : (S : Int) < 2 := by omega
          go_wp2_with fail
          go_ret3
          rw [HC.out]
          exact HFIN.out 4 wc HE.out HBF.out HFF.out
        · have h1i : ¬ (S : Int) < 2 := by omega
          by_cases h2 : 255 < S
          · have HE : Hid (hdE l = 4) := Lib.hid (by rw [HE2.out, if_pos (.inr h2)])
            have h2i : (255 : Int) < (S : Int) := by omega
            go_wp2_with fail
            go_ret3
            rw [HC.out]
            exact HFIN.out 4 wc HE.out HBF.out HFF.out
          · have h2i : ¬ (255 : Int) < (S : Int) := by omega
            have HE3 := Lib.hid (HE2.out.trans (if_neg (by omega)))
            by_cases h3 : 65536 < C
            · have HE : Hid (hdE l = 92) := Lib.hid (by rw [HE3.out, if_pos (.inl h3)])
              have h3i : (65536 : Int) < (C : Int) := by omega
              go_wp2_with fail
              go_ret3
              rw [HC.out]
              exact HFIN.out 92 wc HE.out HBF.out HFF.out
            · have h3i : ¬ (65536 : Int) < (C : Int) := by omega
              obtain ⟨M, hM⟩ : ∃ M, M = C * S := ⟨_, rfl⟩
              have hMb : M ≤ 65536 * 255 := by rw [hM]; exact Nat.mul_le_mul (by omega) (by omega)
              have hMi : (C : Int) * (S : Int) = (M : Int) := by rw [hM]; exact (Int.natCast_mul C S).symm
              have hMw : IntKind.i64.wrap (M : Int) = (M : Int) := IntWalk.i64_in _ (by omega)
              have hMw2 : IntKind.i64.wrap (16 + (M : Int)) = 16 + (M : Int) := IntWalk.i64_in _ (by omega)
              rw [← hM] at HE3
              clear hM
              by_cases h4 : l.length = 16 + M
              · have HE : Hid (hdE l = 0) := Lib.hid (by rw [HE3.out, if_neg (by omega)])
                have h4i : (l.length : Int) = 16 + (M : Int) := by omega
                go_wp2_with fail
                go_ret3
                rw [HC.out]
                exact HFIN.out 0 wc HE.out HBF.out HFF.out
              · have HE : Hid (hdE l = 92) := Lib.hid (by rw [HE3.out, if_pos (.inr h4)])
                have h4i : ((l.length : Int) != 16 + (M : Int)) = true := by rw [bne_iff_ne]; omega
                go_wp2_with fail
                go_ret3
                rw [HC.out]
                exact HFIN.out 92 wc HE.out HBF.out HFF.out
end Go.Proofs.YtlckhfjkdahfpaaDoor

/- Record files: slices.Chunk. -/
namespace Go.Proofs.YtlckhfjkdahfpaaDoor
open Go.RowKit Go.Shelf
attribute [local go_sem] Oper.semAt_some
set_option maxRecDepth 100000 in
theorem Chunk_any (v : Value) (n c : Nat) (a : Option Addr) (k : Nat) (w : World) (hk : 1 ≤ k) : Calls Tryd.prog 53 #[.slice a n c, .int .i64 k] w fun e w' => e = .returned (.func (.func 72) #[] #[.pointer (some ⟨w.heap.size, 0, none⟩), .pointer (some ⟨w.heap.size + 1, 0, none⟩)]) ∧
    w'.heap[w.heap.size]? = some (.cells #[.slice a n c] 37) ∧ w'.heap[w.heap.size + 1]? = some (.cells #[.int .i64 k] 3) ∧ Fr [] w w' ∧ w'.heap.size = w.heap.size + 2 := by
  have hd : ¬ (k : Int) < 1 := by omega
  go_enter Tryd.func53, Tryd.ntmps53
  go_wp2
  go_ret
  refine ⟨rfl, ?_, ?_, ((Fr.refl _ _).alloc _).alloc _, by simp⟩
  · exact ((Fr.refl [] _).alloc _).obj (heap_alloc_new w _) (by simp)
  · have := heap_alloc_new (w.alloc (.cells #[.slice a n c] 37)) (.cells #[.int .i64 k] 3)
    rwa [World.size_alloc] at this
set_option maxRecDepth 100000 in
set_option maxHeartbeats 1600000 in
theorem Chunk1_in (n l B1 B2 ab ao c S m : Nat) (N : Nat) (W : World) (J : Nat → World → Prop) (Jx : World → Prop) (hS : 1 ≤ S) (hSb : S ≤ 1000) (hN : N = m * S) (hNb : N ≤ 140737488351300) (hc : N ≤ c) (h1 : W.cell? ⟨B1, 0, none⟩ = some (.slice (some ⟨ab, ao, none⟩) N c)) (h2 : W.cell? ⟨B2, 0, none⟩ = some (.int .i64 S)) (h0 : J 0 W)
    (hY : ∀ i A W1, i < m → J i A → Fr [] A W1 → YieldAt Fence.wide (n - 1) Tryd.prog l #[.slice (some ⟨ab, ao + i * S, none⟩) S S] W1 (fun e W' => (e = .returned (.bool true) ∧ J (i + 1) W' ∧ W'.cell? ⟨B1, 0, none⟩ = some (.slice (some ⟨ab, ao, none⟩) N c) ∧ W'.cell? ⟨B2, 0, none⟩ = some (.int .i64 S)) ∨ (e = .returned (.bool false) ∧ Jx W'))) :
    CallsIn Fence.wide n Tryd.prog 72 #[.func (.yield l) #[] #[], .pointer (some ⟨B1, 0, none⟩), .pointer (some ⟨B2, 0, none⟩)] W fun e W' => (∃ v, e = .returned v) ∧ ((∃ A, J m A ∧ Fr [] A W') ∨ Jx W') := by
  have HY := Lib.hid hY
  have H0 := Lib.hid h0
  have HN := Lib.hid hN
  have H1 := Lib.hid h1
  have H2 := Lib.hid h2
  clear hY h0 hN h1 h2
  refine callsIn_of_wp Tryd.func72 rfl trivial ?_ rfl
  simp only [Tryd.ntmps72, List.size_toArray, List.length_cons, List.length_nil, Nat.reduceAdd, Nat.reduceSub, Array.replicate_succ, Array.replicate_zero, List.push_toArray, List.append_toArray, List.nil_append, List.cons_append]
  gi_wp2
  gi_loopw [4] (fun q wr => ∃ i : Nat, i ≤ m ∧ q = .int .i64 ((i * S : Nat) : Int) ∧ wr.cell? ⟨B1, 0, none⟩ = some (.slice (some ⟨ab, ao, none⟩) N c) ∧ wr.cell? ⟨B2, 0, none⟩ = some (.int .i64 S) ∧ ∃ A, J i A ∧ Fr [] A wr) (fun q _ => N - (intOf q).toNat)
  case atStart => exact ⟨0, Nat.zero_le _, by simp, H1.out, H2.out, W, H0.out, Fr.refl _ _⟩
  case round =>
    obtain ⟨i, hi, rfl, c1, c2, A, hJ, hfr⟩ := hrel
    obtain ⟨q, hq⟩ : ∃ q, q = i * S := ⟨_, rfl⟩
    rw [← hq]
    have HQ := Lib.hid hq
    have HJ := Lib.hid hJ
    have HFR := Lib.hid hfr
    clear hJ hfr
    by_cases hlt : i < m
    · have hqS : q + S ≤ N := by
        have h := Nat.mul_le_mul_right S (show i + 1 ≤ m by omega)
        rw [Nat.add_mul, Nat.one_mul, ← hq, ← HN.out] at h
        exact h
      have hqN : (q : Int) < (N : Int) := by omega
      have hq0 : (0 : Int) ≤ (q : Int) := by omega
      have hqc : (q : Int) ≤ (N : Int) := by omega
      have hqe : ¬ c = q := by omega
      have hm1 : (S : Int) ≤ (N : Int) - (q : Int) := by omega
      have hm2 : ((N : Int) - (q : Int)).toNat = N - q := by omega
      have hm3 : ((N - q : Nat) : Int) = (N : Int) - (q : Int) := by omega
      clear hq
      have hmn : S ≤ N - q := by omega
      have hmi : min (S : Int) ((N - q : Nat) : Int) = (S : Int) := by omega
      have hss : IntKind.i64.wrap ((q : Int) + (S : Int)) = (q : Int) + (S : Int) := IntWalk.i64_in _ (by omega)
      gi_wp2_with fail
      refine wpIn_wide.2 ?_
      go_quiet (fail)
      obtain ⟨W2, hW2⟩ : ∃ W2, W2 = wr.drewN nq := ⟨_, rfl⟩
      rw [← hW2]
      have hf2 : Fr [] wr W2 := by rw [hW2]; exact (Fr.refl [] wr).drewN nq
      have d1 := hf2.cell c1 (by simp)
      have d2 := hf2.cell c2 (by simp)
      have hy0 := HY.out i A W2 hlt HJ.out (HFR.out.trans hf2)
      rw [← HQ.out] at hy0
      obtain ⟨fn, tmps, assign, body, hy, hR⟩ := hy0
      have HRD := Lib.hid hR
      have t1 : ((q : Int) + (S : Int)).toNat - q = S := by omega
      have t2 : (q : Int) ≤ (q : Int) + (S : Int) := by omega
      have t3 : (q : Int) + (S : Int) ≤ (c : Int) := by omega
      clear hW2 hf2 hR c1 c2 hmi hm1 hm2 hm3 hqS hmn
      gi_wp2_with fail
      refine ⟨fun h => by simp [Fence.wide] at h, HRD.out.mono ?_⟩
      rintro e W3 (⟨rfl, hj3, e1, e2⟩ | ⟨rfl, hjx⟩)
      · have HJ3 := Lib.hid hj3
        have hsw : IntKind.i64.wrap ((q : Int) + (S : Int)) = (q : Int) + (S : Int) := IntWalk.i64_in _ (by omega)
        clear hj3 d1 d2 HRD
        gi_wp2
        go_roundw
        case rel =>
          refine ⟨i + 1, by omega, ?_, by simpa using e1, by simpa using e2, W3, HJ3.out, Fr.refl _ _⟩
          rw [Nat.add_mul, Nat.one_mul, ← HQ.out]
          go_num
        case measure => simp [intOf] <;> omega
      · have HJX := Lib.hid hjx
        clear hjx HRD
        gi_wp2
        refine bodyPost_ret (results_none rfl _ _ _) rfl ?_
        exact ⟨⟨_, rfl⟩, .inr HJX.out⟩
    · obtain rfl : i = m := by omega
      have hqN : ¬ (q : Int) < (N : Int) := by rw [hq, HN.out]; omega
      clear hq
      gi_wp2
      go_end0
      exact ⟨⟨_, rfl⟩, .inl ⟨A, HJ.out, HFR.out⟩⟩
end Go.Proofs.YtlckhfjkdahfpaaDoor

/- Record files: a list grows by one record; what a loop's own blocks are apart from. -/
namespace Go.Proofs.YtlckhfjkdahfpaaDoor
open Go.RowKit

theorem own_ty {w : World} {B e size n k T : Nat} {v : Value} {xs : List Value} {cs : Array Value} (h : w.ownsRow B e size v n xs) (hk : w.heap[k]? = some (.cells cs T)) (hT : T ≠ e) : v.ownBlock ≠ some k := by
  rcases h.2 with ⟨rfl, _⟩ | ⟨g, cap, cur, rfl, _, hh, _⟩
  · simp [Value.ownBlock]
  · simp only [Value.ownBlock]
    intro e1
    cases e1
    rw [hk] at hh
    simp at hh
    exact hT hh.2
theorem own_lp {w : World} {B e size n k : Nat} {v : Value} {xs : List Value} {fn : FuncId} {tmps : Array Value} {ps : Array Tmp} {assign body : Code} {D : Nat} {st : LoopState} {pe : Option Code} (h : w.ownsRow B e size v n xs) (hk : w.heap[k]? = some (lpR fn tmps ps assign body D st pe)) : v.ownBlock ≠ some k := by
  rcases h.2 with ⟨rfl, _⟩ | ⟨g, cap, cur, rfl, _, hh, _⟩
  · simp [Value.ownBlock]
  · simp only [Value.ownBlock]
    intro e1
    cases e1
    rw [hk] at hh
    unfold lpR at hh
    cases hh
theorem own_df {w : World} {B e size n k : Nat} {v : Value} {xs : List Value} {d : Option (List Deferred)} (h : w.ownsRow B e size v n xs) (hk : w.heap[k]? = some (.deferred d)) : v.ownBlock ≠ some k := by
  rcases h.2 with ⟨rfl, _⟩ | ⟨g, cap, cur, rfl, _, hh, _⟩
  · simp [Value.ownBlock]
  · simp only [Value.ownBlock]
    intro e1
    cases e1
    rw [hk] at hh
    cases hh
theorem lp_take {W : World} {l : Nat} {fn : FuncId} {T : Array Value} {ps : Array Tmp} {asg bd : Code} {D : Nat} {s : LoopState} {p : Option Code} (h : W.heap[l]? = some (lpR fn T ps asg bd D s p)) : ∃ R : LoopState → Option Code → Obj, R = lpR fn T ps asg bd D ∧ W.heap[l]? = some (R s p) := ⟨_, rfl, h⟩
theorem put_take {W0 Wb : World} {l : Nat} {o : Obj} (h : W0.putObj l o = Wb) (hl : l < W0.heap.size) : Wb.heap[l]? = some o := by rw [← h]; exact World.putObj_heap_same hl
theorem own_two {w : World} {B C e e' s s' n n' : Nat} {v v' : Value} {xs xs' : List Value} (h : w.ownsRow B e s v n xs) (h' : w.ownsRow C e' s' v' n' xs') (hne : e ≠ e') : ∀ g, v.ownBlock = some g → v'.ownBlock ≠ some g := by
  intro g hg
  rcases h.2 with ⟨rfl, _⟩ | ⟨g', cap, cur, rfl, _, hh, _⟩
  · simp [Value.ownBlock] at hg
  · simp only [Value.ownBlock, Option.some.injEq] at hg
    subst hg
    exact own_ty h' hh hne
/-- append onto a list of the call's own, as one step of a region that draws -/
theorem step_appS {P : Program} {ops : Array Oper} {o : Oper} {a : Act} {w : World} {K : Act → World → Prop} {Q : Exit → Act → World → Prop} {E : Prop}
    (hg : o.guard = none) (s x : Operand) (t : TypeId) (hop : o.op = Op.call { callee := Callee.builtin Builtin.append, args := #[s, x], argTypes := #[t, t] })
    (base : Nat) (e : TypeId) (z : Value) (size bytes : Nat) (ht : P.underlying t = some (.slice e)) (hinfo : (P.info? e).map (fun i => (i.zero, i.size, i.bytes)) = some (some z, size, bytes))
    (hzs : z.cells.size = size) (hsz : 0 < size)
    (v : Value) (n : Nat) (xs : List Value) (hs : a.eval s = v) (hown : w.ownsRow base e size v n xs)
    (ao : Option Addr) (m c : Nat) (news : List Value) (hx : a.eval x = .slice ao m c) (hl : news.length = m * size) (hnews : ∀ a, ao = some a → ∀ j u, news[j]? = some u → w.cell? (a.add j) = some u) (hnone : ao = none → m = 0 ∧ c = 0) (h1 : ∀ u ∈ news, u.oneCell' = true)
    (h63 : n + m ≤ maxLen) (hbytes : (n + m) * bytes ≤ 140737488355328) (hbase : base ≤ w.heap.size)
    (hK : ∀ v' w', App w w' base e size v v' n m xs news → K (a.put o.dst v') w') :
    if Region.wanted o (yielded ops a.tmps) = true then Oper.wp P o a w K Q else E := by
  have hw : Region.wanted o (yielded ops a.tmps) = true := by simp [Region.wanted, hg]
  rw [if_pos hw]
  obtain ⟨i, hi, hz, hsz2, hby⟩ := info_parts hinfo
  obtain ⟨v', w', hr, happ⟩ := run_appS (P := P) w base t o.type e i z size bytes ht hi hz hsz2 hby hzs hsz v n xs hown ao m c news hl hnews hnone h1 h63 hbytes hbase
  unfold Oper.wp
  simp [execOp, hop, resolve, invoke, builtin, hs, hx, hr, Result.andThen]
  exact hK v' w' happ
theorem bx_news {w : World} {b : Nat} {x : Value} {T : Nat} (h : w.heap[b]? = some (.cells #[x] T)) : ∀ a, some (⟨b, 0, none⟩ : Addr) = some a → ∀ (j : Nat) (u : Value), [x][j]? = some u → w.cell? (a.add j) = some u := by
  intro a ha j u hj
  cases ha
  cases j with
  | succ j => simp at hj
  | zero =>
    have h1 := cell_of_row w b 0 _ _ _ h
    simp at h1 hj
    subst hj
    simpa [Addr.add] using h1
theorem frozen_frK {S : List Nat} {w w' : World} (h : Fr S w w') {a : Addr} (hb : a.block < w.heap.size) (hn : a.block ∉ S) : w'.frozen? a = w.frozen? a := by
  unfold World.frozen?
  rw [h.block _ hb hn]
/-- what a region of Open needs -/
def KP (X4 F : Nat) (w' : World) : Prop := w'.cell? ⟨X4, 0, none⟩ = some (.pointer (some ⟨F, 0, none⟩)) ∧ (w'.cell? ⟨F, 3, none⟩).isSome = true ∧ w'.frozen? ⟨F, 3, none⟩ = false ∧ F < w'.heap.size
theorem KP.of {X4 F : Nat} {w : World} {x0 x1 x2 x3 x4 x5 : Value} (h : w.heap[F]? = some (.cells #[x0, x1, x2, x3, x4, x5] 93)) (hX : w.heap[X4]? = some (.cells #[.pointer (some ⟨F, 0, none⟩)] 62)) : KP X4 F w := by
  refine ⟨cell_of_row _ _ 0 _ _ _ hX, ?_, frozen_of_row _ _ 3 _ _ h, (Array.getElem?_eq_some_iff.1 h).1⟩
  rw [cell_of_row _ _ 3 _ _ _ h]
  rfl
theorem KP.fr {X4 F : Nat} {w w' : World} (h : KP X4 F w) (hf : Fr [] w w') : KP X4 F w' := by
  obtain ⟨u, hu⟩ := Option.isSome_iff_exists.1 h.2.1
  refine ⟨hf.cell h.1 (by simp), by rw [hf.cell hu (by simp)]; rfl, ?_, Nat.lt_of_lt_of_le h.2.2.2 hf.size⟩
  rw [frozen_frK hf h.2.2.2 (by simp)]
  exact h.2.2.1
theorem KP.alloc {X4 F : Nat} {w : World} (h : KP X4 F w) (o : Obj) : KP X4 F (w.alloc o) := h.fr ((Fr.refl [] w).alloc o)
theorem KP.drew {X4 F : Nat} {w : World} (h : KP X4 F w) : KP X4 F w.drew := h.fr ((Fr.refl [] w).drew)
theorem KP.set {X4 F : Nat} {w : World} (h : KP X4 F w) (hne : X4 ≠ F) (v : Value) : KP X4 F (w.setCell ⟨F, 3, none⟩ v) := by
  obtain ⟨u, hu⟩ := Option.isSome_iff_exists.1 h.2.1
  exact ⟨((Fr.refl [F] w).setCell (by simp) v).cell h.1 (by simpa using hne), by rw [World.cell?_setCell_same w _ v hu]; rfl, by simpa using h.2.2.1, by simpa using h.2.2.2⟩
/-- a list grows by one record -/
theorem rf_app {wA wB : World} {B F kd vr S : Nat} {v v' : Value} {X : List LI} {T : Recs} {y : LI} (h : RFH wA B F v X ⟨kd, vr, S, 0, T⟩) (hy : wA.ownsRow B 5 1 y.v y.d.length (y.d.map B8)) (ha : App wA wB B 37 1 v v' X.length 1 (X.map LI.v) [y.v]) :
    wB.heap[F]? = some (.cells #[.int .i64 kd, .int .i64 vr, .int .i64 S, v, .int .i64 (liveN T), .int .i64 0] 93) ∧
    (wB.setCell ⟨F, 3, none⟩ v').heap[F]? = some (.cells #[.int .i64 kd, .int .i64 vr, .int .i64 S, v', .int .i64 (liveN T), .int .i64 0] 93) ∧ LL (wB.setCell ⟨F, 3, none⟩ v') B v' (X ++ [y]) ∧ Fr (F :: v.ownBlock.toList) wA (wB.setCell ⟨F, 3, none⟩ v') ∧ (v'.ownBlock = v.ownBlock ∨ ∃ g, v'.ownBlock = some g ∧ wA.heap.size ≤ g) := by
  have hfb := app_frZ ha
  have hob := hfb.obj h.obj (by simpa using h.ne)
  have hll := h.recs.app hy ha hfb (own_two hy h.recs.row (by decide))
  refine ⟨hob, by rw [heap_setCell_same wB F 3 _ _ _ hob]; rfl, hll.fr ((Fr.refl [F] wB).setCell (by simp) _) ?_, Fr.setCell (p := ⟨F, 3, none⟩) (hfb.mono (fun i hi _ => List.mem_cons_of_mem _ hi)) (fun _ => List.mem_cons_self) _, ha.blk⟩
  intro i hi hm
  obtain rfl : i = F := by simpa using hm
  rcases llB_cases hi with hi | ⟨x, hx, hi⟩
  · exact own_ty hll.row hob (by decide) hi
  · exact own_ty (hll.dat x hx) hob (by decide) hi
theorem rf_snoc {wA w6 : World} {B F kd vr S : Nat} {v v' : Value} {X : List LI} {T : Recs} {y : LI} (h : RFH wA B F v X ⟨kd, vr, S, 0, T⟩) (ho : w6.heap[F]? = some (.cells #[.int .i64 kd, .int .i64 vr, .int .i64 S, v', .int .i64 ((liveN (T ++ [y.o]) : Nat) : Int), .int .i64 0] 93)) (hl : LL w6 B v' (X ++ [y])) (hT : T.length < 65536) (hd : ∀ d, y.o = some d → d.length + 1 = S) :
    RFH w6 B F v' (X ++ [y]) ⟨kd, vr, S, 0, T ++ [y.o]⟩ := by
  refine ⟨ho, hl, by rw [List.map_append, h.opt]; rfl, ⟨h.ok.kd, h.ok.vr, h.ok.lo, h.ok.hi, by simp; omega, ?_, fun i hi => absurd hi (by simp)⟩, h.base⟩
  intro d hm
  rcases List.mem_append.1 hm with hm | hm
  · exact h.ok.dat d hm
  · exact hd d (List.mem_singleton.1 hm).symm
theorem liveN_snoc (T : Recs) (o : Option (List UInt8)) : liveN (T ++ [o]) = liveN T + (if o.isSome = true then 1 else 0) := by
  rw [liveN_append]
  congr 1
  cases o <;> rfl
/-- F's blocks and a loop's own -/
theorem rf_apart {A : World} {B F kd vr S l D : Nat} {v : Value} {X : List LI} {T : Recs} {R : LoopState → Option Code → Obj} {fn : FuncId} {tmps : Array Value} {ps : Array Tmp} {assign body : Code} {st : LoopState} {pe : Option Code} (h : RFH A B F v X ⟨kd, vr, S, 0, T⟩) (hR : R = lpR fn tmps ps assign body D) (hl : A.heap[l]? = some (R st pe)) : ∀ i ∈ rfB F v X, i ≠ l := by
  subst hR
  rintro i hi rfl
  rcases List.mem_cons.1 hi with rfl | hi
  · rw [h.obj] at hl
    unfold lpR at hl
    cases hl
  rcases llB_cases hi with hi | ⟨x, hx, hi⟩
  · exact own_lp h.recs.row hl hi
  · exact own_lp (h.recs.dat x hx) hl hi
end Go.Proofs.YtlckhfjkdahfpaaDoor
