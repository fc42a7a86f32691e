/- Frames: the walks of Pack, the program's and the document's. -/
import Derived.Test.YtkgfdcagninphaaDoorFrA
import Derived.Test.YtkgfdcagninphaaDoorCrcA
import Derived.Test.YtkgfdcagninphaaDoorRecW
import Derived.Deep.RegionHeld3
import Derived.Deep.RegionLaw
import Derived.Deep.CutRange
import Derived.Deep.DeepCutAuto
namespace Go.Proofs.YtkgfdcagninphaaDoor
open Go.RowKit
attribute [local go_sem ↓] Go.wp_at_zero Go.wp_at_succ
theorem nib_keep {w w' : World} (h : Nib w) (hf : Fr [] w w') : Nib w' := fun i hi => hf.cell (h i hi) (by simp)
theorem nib_fr {S : List Nat} {w w' : World} (h : Nib w) (hf : Fr S w w') (hS : 0 ∉ S) : Nib w' := fun i hi => hf.cell (h i hi) hS
theorem wrapU_I32 (s : BitVec 32) : IntKind.u64.wrap (I32 s) = I32 s := wrapU_int _ (I32_lo s) (by have := I32_hi s; omega)
theorem I32_nat (s : BitVec 32) : (I32 s).toNat = s.toNat := by unfold I32; omega
theorem I32_toNat (s : BitVec 32) : by8 4 (I32 s).toNat = by8 4 s.toNat := by rw [I32_nat]
theorem by8_1 (n : Nat) : by8 1 n = [UInt8.ofNat n] := by simp [by8]
/-- the error's number of a frame that is packed -/
def errP (z : Int) (d : List UInt8) : Int := if z < 0 ∨ 255 < z then 2 else if 1048576 < d.length then 1 else 0
theorem errP_arg {z : Int} {d : List UInt8} (h : z < 0 ∨ 255 < z) : errP z d = 2 := if_pos h
theorem errP_long {z : Int} {d : List UInt8} (h : ¬ (z < 0 ∨ 255 < z)) (h2 : 1048576 < d.length) : errP z d = 1 := by unfold errP; rw [if_neg h, if_pos h2]
theorem errP_ok {z : Int} {d : List UInt8} (h : ¬ (z < 0 ∨ 255 < z)) (h2 : ¬ 1048576 < d.length) : errP z d = 0 := by unfold errP; rw [if_neg h, if_neg h2]
theorem errP_0 {z : Int} {d : List UInt8} (h : errP z d = 0) : (0 ≤ z ∧ z ≤ 255) ∧ d.length ≤ 1048576 := by
  unfold errP at h
  split at h
  · cases h
  split at h
  · cases h
  omega
/-- the bytes of a frame (none where it is refused) -/
def fL (z : Int) (d : List UInt8) : List UInt8 := if errP z d = 0 then fB (UInt8.ofNat z.toNat) d else []
theorem fL_ok {z : Int} {d : List UInt8} (h : errP z d = 0) : fL z d = fB (UInt8.ofNat z.toNat) d := if_pos h
theorem fL_no {z : Int} {d : List UInt8} (h : errP z d ≠ 0) : fL z d = [] := if_neg h
theorem fL_length (z : Int) (d : List UInt8) : (fL z d).length ≤ 1048585 := by
  by_cases h : errP z d = 0
  · rw [fL_ok h, fB_length]; have := errP_0 h; omega
  · rw [fL_no h]; simp
/-- what Pack gives: memory of the call's own -/
def PackG (w w' : World) (e : Ending) (z : Int) (d : List UInt8) : Prop :=
  ∃ a c, e = .returned (.tuple #[.slice a (fL z d).length c, .int .i64 (errP z d)]) ∧ w'.ownsRow w.heap.size 5 1 (.slice a (fL z d).length c) (fL z d).length ((fL z d).map B8) ∧ Fr [] w w'
theorem PackG.no {w w' : World} {z : Int} {d : List UInt8} {n : Int} (h : errP z d = n) (h0 : n ≠ 0) (hf : Fr [] w w') : PackG w w' (.returned (.tuple #[.slice none 0 0, .int .i64 n])) z d := by
  subst h
  refine ⟨none, 0, ?_, ?_, hf⟩
  · rw [fL_no h0]; rfl
  · rw [fL_no h0]; exact World.ownsRow_nil _ _ _ _
theorem PackG.yes {w w' : World} {z : Int} {d : List UInt8} {v : Value} (h : errP z d = 0) (hf : Fresh w.heap.size w w' v (fB (UInt8.ofNat z.toNat) d)) : PackG w w' (.returned (.tuple #[v, .int .i64 0])) z d := by
  obtain ⟨g, cap, rfl, _, _, ho, hfr⟩ := hf
  refine ⟨some ⟨g, 0, none⟩, cap, ?_, ?_, hfr⟩
  · rw [fL_ok h, h]
  · rw [fL_ok h]; exact ho
theorem duo {w : World} {b T : Nat} {c0 c1 : Value} (h : w.heap[b]? = some (.cells #[c0, c1] T)) : w.cell? ⟨b, 0, none⟩ = some c0 ∧ w.cell? ⟨b, 1, none⟩ = some c1 :=
  ⟨cell_of_row _ _ 0 _ _ _ h, cell_of_row _ _ 1 _ _ _ h⟩
set_option maxRecDepth 100000 in
set_option maxHeartbeats 1600000 in
theorem Pack_any (z : Int) (a : Option Addr) (c : Nat) (d : List UInt8) (w : World) (hl : d.length ≤ 140737488351300) (hno : a = none → c = 0) (hb : Bytes w a d) (hn : Nib w) :
    Calls Tryd.prog 13 #[.agg #[.int .i64 z, .slice a d.length c]] w fun e w' => PackG w w' e z d := by
  have HB := Lib.hid hb
  have HN := Lib.hid hn
  have HNO := Lib.hid hno
  clear hb hn hno
  by_cases hz : z < 0 ∨ 255 < z
  · have HER := Lib.hid (errP_arg (d := d) hz)
    rcases hz with hz | hz
    · have hd : decide (z < 0) = true := decide_eq_true hz
      go_enter Tryd.func13, Tryd.ntmps13
      go_wp2
      go_ret2
      exact PackG.no HER.out (by decide) ((Fr.refl _ _).alloc _)
    · have hd : decide (z < 0) = false := decide_eq_false (by omega)
      have hd2 : decide (255 < z) = true := decide_eq_true hz
      go_enter Tryd.func13, Tryd.ntmps13
      go_wp2
      go_ret2
      exact PackG.no HER.out (by decide) ((Fr.refl _ _).alloc _)
  · have hd : decide (z < 0) = false := decide_eq_false (by omega)
    have hd2 : decide (255 < z) = false := decide_eq_false (by omega)
    by_cases hlong : 1048576 < d.length
    · have HER := Lib.hid (errP_long hz hlong)
      have hd3 : decide ((1048576 : Int) < (d.length : Int)) = true := decide_eq_true (by omega)
      clear hz
      go_enter Tryd.func13, Tryd.ntmps13
      go_wp2
      go_ret2
      exact PackG.no HER.out (by decide) ((Fr.refl _ _).alloc _)
    · have HER := Lib.hid (errP_ok hz hlong)
      have hd3 : decide ((1048576 : Int) < (d.length : Int)) = false := decide_eq_false (by omega)
      have z0 : 0 ≤ z := by omega
      have z1 : z < 18446744073709551616 := by omega
      have q1 : IntKind.u64.wrap z = z := wrapU_int _ (by omega) (by omega)
      have q2 : IntKind.u64.wrap (d.length : Int) = (d.length : Int) := wrapU_int _ (by omega) (by omega)
      have HDL := Lib.hid (show d.length ≤ 1048576 by omega)
      clear hz hlong
      go_enter Tryd.func13, Tryd.ntmps13
      go_wp2_with fail
      obtain ⟨wa, hwa⟩ : ∃ wa, wa = w.alloc (.cells #[.int .i64 z, .slice a d.length c] 25) := ⟨_, rfl⟩
      rw [← hwa]
      have HFA := Lib.hid (show Fr [] w wa by rw [hwa]; exact (Fr.refl _ _).alloc _)
      have HBA := Lib.hid (show wa.heap[w.heap.size]? = some (.cells #[.int .i64 z, .slice a d.length c] 25) by rw [hwa]; exact heap_alloc_new w _)
      clear hwa hd hd2 hd3
      refine (NewW wa).mono ?_
      rintro e w1 ⟨rfl, ht⟩
      have HT1 := Lib.hid ht
      obtain ⟨x0, x1⟩ := duo (ht.fr.obj HBA.out (by simp))
      clear ht
      generalize wa.heap.size = p at HT1 ⊢
      go_wp2_with fail
      refine (NumW wa w1 p [] 1 z HT1.out (by unfold Wd; omega) z0 z1 (by simp)).mono ?_
      rintro e w2 ⟨rfl, ht⟩
      have HT2 := Lib.hid ht
      clear x0 x1
      obtain ⟨x0, x1⟩ := duo (ht.fr.obj HBA.out (by simp))
      clear ht
      go_wp2_with fail
      refine (NumW wa w2 p _ 4 (d.length : Int) HT2.out (by unfold Wd; omega) (by omega) (by have := HDL.out; omega) (by rw [List.length_append, by8_length, List.length_nil]; omega)).mono ?_
      rintro e w3 ⟨rfl, ht⟩
      have HT3 := Lib.hid ht
      clear x0 x1
      obtain ⟨x0, x1⟩ := duo (ht.fr.obj HBA.out (by simp))
      have hb3 := Lib.hid ((HB.out.keep HFA.out).keep ht.fr)
      clear ht
      go_wp2_with fail
      refine (RawW wa w3 p _ a c d HT3.out hb3.out HNO.out (by have := HDL.out; simp only [List.length_append, by8_length, List.length_nil]; omega)).mono ?_
      rintro e w4 ⟨rfl, ht⟩
      have hh : [] ++ by8 1 z.toNat ++ by8 4 (d.length : Int).toNat ++ d = fH (UInt8.ofNat z.toNat) d := by
        rw [by8_1, Int.toNat_natCast]; unfold fH; simp
      rw [hh] at ht
      have HT4 := Lib.hid ht
      have HHL := Lib.hid (show (fH (UInt8.ofNat z.toNat) d).length ≤ 1048581 by rw [fH_length]; have := HDL.out; omega)
      have HHP := Lib.hid (show 0 < (fH (UInt8.ofNat z.toNat) d).length by rw [fH_length]; omega)
      have HFB := Lib.hid (show fB (UInt8.ofNat z.toNat) d = fH (UInt8.ofNat z.toNat) d ++ sm4 (fH (UInt8.ofNat z.toNat) d) from rfl)
      clear x0 x1 ht hh
      generalize fH (UInt8.ofNat z.toNat) d = H at HT4 HHL HHP HFB
      go_wp2_with fail
      refine (BytesW wa w4 p H HT4.out (by have := HHL.out; omega)).mono ?_
      rintro e w5 ⟨u, rfl, hg⟩
      have hfr := (hg.fresh HHP.out)
      obtain ⟨g, cap, rfl, _, _, hbu, hfu⟩ := hfr.bytes
      have HT5 := Lib.hid (HT4.out.still hfu)
      have HBU := Lib.hid hbu
      clear hg hfr hbu hfu
      go_wp2_with fail
      refine (sum_any _ _ cap H w5 rfl (by have := HHL.out; omega) HBU.out (nib_keep HN.out (HFA.out.trans HT5.out.fr))).mono ?_
      rintro e w' ⟨rfl, rfl⟩
      have q3 := wrapU_I32 (P.update 0#32 H)
      have b1 := I32_lo (P.update 0#32 H)
      have b2 := I32_hi (P.update 0#32 H)
      have HSM := Lib.hid (show by8 4 (I32 (P.update 0#32 H)).toNat = sm4 H from I32_toNat _)
      generalize I32 (P.update 0#32 H) = s at q3 b1 b2 HSM ⊢
      go_wp2_with fail
      refine (NumW wa w5 p H 4 s HT5.out (by unfold Wd; omega) b1 (by omega) (by have := HHL.out; omega)).mono ?_
      rintro e w6 ⟨rfl, ht⟩
      rw [HSM.out, ← HFB.out] at ht
      have HT6 := Lib.hid ht
      clear ht q3
      go_wp2_with fail
      refine (BytesW wa w6 p _ HT6.out (by rw [fB_length]; have := HDL.out; omega)).mono ?_
      rintro e w7 ⟨u, rfl, hg⟩
      have HG7 := Lib.hid (((hg.fresh (by rw [fB_length]; omega)).base HT6.out.fr HT6.out.fr.size).base HFA.out HFA.out.size)
      clear hg
      go_wp2
      go_ret2
      exact PackG.yes HER.out HG7.out
end Go.Proofs.YtkgfdcagninphaaDoor
