/- Record files: RecfilePlays. -/
import Derived.Test.YtibhbfmljibeaaaDoorRfX
import Derived.Test.YtibhbfmljibeaaaDoorRfV
namespace Go.Proofs.YtibhbfmljibeaaaDoor
open Go.RowKit
attribute [local go_sem ↓] Go.wp_at_zero Go.wp_at_succ
theorem PairG.clean {B C p q : Nat} {bs cs : List Nat} {s : RFS} {w0 w w' : World} (h : Pair B C w p q bs cs s) (hB : w0.heap.size ≤ B) (hC : w0.heap.size ≤ C) (hf : Fr [] w0 w) (hs : Fr (bs ++ cs) w w') : Fr [] w0 w' :=
  fr_new hf hs fun i hi => by
    rcases List.mem_append.1 hi with hi | hi
    · have := (h.f.lt i hi).1; omega
    · have := (h.m.lt i hi).1; omega
set_option maxRecDepth 100000 in
set_option maxHeartbeats 3200000 in
theorem recfilePlays_walk (x y z : Int) (sa : Option Addr) (n sc : Nat) (F : Nat → OpW) (w : World) (hn2 : n ≤ 140737488351300) (hF : OpsA w sa n F) (hn : Nib w) :
    Calls Tryd.prog 9 #[.agg #[.int .i64 x, .int .i64 y, .int .i64 z], .slice sa n sc] w fun e w' => e = .returned (.bool true) ∧ Fr [] w w' := by
  have HN := Lib.hid hn
  have HF := Lib.hid hF
  clear hn hF
  obtain ⟨wb, hwb⟩ : ∃ wb, wb = w.alloc (.cells #[.int .i64 x, .int .i64 y, .int .i64 z] 39) := ⟨_, rfl⟩
  have HB := Lib.hid (show wb.heap[w.heap.size]? = some (.cells #[.int .i64 x, .int .i64 y, .int .i64 z] 39) by rw [hwb]; exact heap_alloc_new w _)
  have HFB := Lib.hid (show Fr [] w wb by rw [hwb]; exact (Fr.refl _ _).alloc _)
  have HWB := Lib.hid hwb
  clear hwb
  go_enter Tryd.func9, Tryd.ntmps9
  go_wp2_with fail
  rw [← HWB.out]
  refine (speaks09 wb (nib_keep HN.out HFB.out)).mono ?_
  rintro e w1 ⟨rfl, hf1⟩
  have HF1 := Lib.hid (HFB.out.trans hf1)
  have HB1 := Lib.hid (hf1.obj HB.out (by simp))
  obtain ⟨b0, b1, b2⟩ := trio HB1.out
  clear hf1
  by_cases h1 : x < 0 ∨ 255 < x ∨ y < 0 ∨ 255 < y
  · have H1 := Lib.hid h1
    clear h1
    go_wp2_with fail
    refine (New_arg x y z w1 H1.out).mono ?_
    rintro e w' ⟨rfl, rfl⟩
    go_wp2_with fail
    refine (New9_arg x y z w1 H1.out).mono ?_
    rintro e w' ⟨rfl, rfl⟩
    go_wp2
    go_ret
    exact ⟨rfl, HF1.out⟩
  by_cases h2 : z < 2 ∨ 255 < z
  · have H1 := Lib.hid h1
    have H2 := Lib.hid h2
    clear h1 h2
    go_wp2_with fail
    refine (New_size x y z w1 H1.out H2.out).mono ?_
    rintro e w' ⟨rfl, rfl⟩
    go_wp2_with fail
    refine (New9_size x y z w1 H1.out H2.out).mono ?_
    rintro e w' ⟨rfl, rfl⟩
    go_wp2
    go_ret
    exact ⟨rfl, HF1.out⟩
  obtain ⟨kd, rfl⟩ : ∃ k : Nat, x = k := ⟨x.toNat, by omega⟩
  obtain ⟨vr, rfl⟩ : ∃ k : Nat, y = k := ⟨y.toNat, by omega⟩
  obtain ⟨sz, rfl⟩ : ∃ k : Nat, z = k := ⟨z.toNat, by omega⟩
  have HNEW := Lib.hid (New_ok kd vr sz w1 (by omega) (by omega) (by omega) (by omega))
  have HNEW9 : Hid (∀ W, Calls Tryd.prog 24 #[.int .i64 kd, .int .i64 vr, .int .i64 sz] W fun e w' => e = .returned (.tuple #[.pointer (some ⟨W.heap.size, 0, none⟩), .int .i64 0]) ∧ MF W.heap.size [W.heap.size] w' W.heap.size ⟨kd, vr, sz, 0, []⟩ ∧ Fr [] W w') := Lib.hid fun W => New9_ok kd vr sz W (by omega) (by omega) (by omega) (by omega)
  clear h1 h2
  go_wp2_with fail
  refine HNEW.out.mono ?_
  rintro e w2 ⟨rfl, hr2, hf2⟩
  have HR2 := Lib.hid hr2
  have HF2 := Lib.hid (HF1.out.trans hf2)
  obtain ⟨b0', b1', b2'⟩ := trio (hf2.obj HB1.out (by simp))
  clear hr2 hf2 HNEW b0 b1 b2
  obtain ⟨p, hp⟩ : ∃ p, p = w1.heap.size := ⟨_, rfl⟩
  obtain ⟨bs, hbs⟩ : ∃ bs, bs = [w1.heap.size] := ⟨_, rfl⟩
  rw [← hbs, ← hp] at HR2
  rw [← hp]
  have HPW := Lib.hid (show w.heap.size ≤ p by rw [hp]; exact HF1.out.size)
  clear hp hbs
  go_wp2_with fail
  refine (HNEW9.out w2).mono ?_
  rintro e w3 ⟨rfl, hm3, hf3⟩
  have HF3 := Lib.hid (HF2.out.trans hf3)
  obtain ⟨q, hq⟩ : ∃ q, q = w2.heap.size := ⟨_, rfl⟩
  obtain ⟨cs, hcs⟩ : ∃ cs, cs = [w2.heap.size] := ⟨_, rfl⟩
  have HP3 : Hid (Pair p q w3 p q bs cs ⟨kd, vr, sz, 0, []⟩) := Lib.hid ⟨HR2.out.keep hf3, by rw [hq, hcs]; exact hm3, fun i hi hm => by rw [hcs] at hm; simp at hm; have := (HR2.out.lt i hi).2; omega⟩
  have HQW := Lib.hid (show w.heap.size ≤ q by rw [hq]; exact HF2.out.size)
  rw [← hq]
  clear hm3 hf3 b0' b1' b2' HNEW9 hq hcs HR2 HB1 HB HFB HWB
  go_wp2_with fail
  go_loopw [47] (fun i wr => ∃ (k : Nat) (bs cs : List Nat) (s : RFS), k ≤ n ∧ i = .int .i64 k ∧ Pair p q wr p q bs cs s ∧ Fr [] w wr) (fun i _ => n - (intOf i).toNat)
  case atStart => exact ⟨0, bs, cs, _, by omega, rfl, HP3.out, HF3.out⟩
  case round =>
    obtain ⟨k, bs, cs, s, hk, rfl, hpr, hf⟩ := hrel
    have HP := Lib.hid hpr
    have HFR := Lib.hid hf
    clear hpr hf
    by_cases hlt : k < n
    · obtain ⟨sb, so, rfl, c0, c1, c2⟩ := (HF.out.keep HFR.out).cell k hlt
      have hok := (HF.out.keep HFR.out).ok k hlt
      obtain ⟨okd, hokd⟩ : ∃ z, z = (F k).kd := ⟨_, rfl⟩
      obtain ⟨oid, hoid⟩ : ∃ z, z = (F k).id := ⟨_, rfl⟩
      obtain ⟨oa, hoa⟩ : ∃ z, z = (F k).a := ⟨_, rfl⟩
      obtain ⟨oc, hoc⟩ : ∃ z, z = (F k).c := ⟨_, rfl⟩
      obtain ⟨od, hod⟩ : ∃ z, z = (F k).d := ⟨_, rfl⟩
      have HOL : Hid (od.length ≤ 140737488351232) := Lib.hid (by rw [hod]; exact hok.len)
      have HONO : Hid (oa = none → oc = 0) := Lib.hid (by rw [hoa, hoc]; exact hok.none)
      have HOB : Hid (Bytes wr oa od) := Lib.hid (by rw [hoa, hod]; exact hok.bytes)
      rw [← hokd] at c0
      rw [← hoid] at c1
      rw [← hoa, ← hod, ← hoc] at c2
      obtain ⟨wbx, hwbx⟩ : ∃ wb, wb = wr.alloc (.cells #[.int .i64 okd, .int .i64 oid, .slice oa od.length oc] 43) := ⟨_, rfl⟩
      have hbb : wbx.heap[wr.heap.size]? = some (.cells #[.int .i64 okd, .int .i64 oid, .slice oa od.length oc] 43) := by rw [hwbx]; exact heap_alloc_new wr _
      have hfb : Fr [] wr wbx := by rw [hwbx]; exact (Fr.refl _ _).alloc _
      have HFX := Lib.hid hfb
      obtain ⟨b0, b1, b2⟩ := trio hbb
      have HWBX := Lib.hid hwbx
      clear hokd hoid hoa hoc hod hok hwbx hbb hfb
      go_wp2_with fail
      rw [← HWBX.out]
      clear HWBX c0 c1 c2
      refine (step9_any p q bs cs wbx p q s okd oid oa oc od (HP.out.keep HFX.out) HOL.out HONO.out (HOB.out.keep HFX.out) (nib_keep HN.out (HFR.out.trans HFX.out))).mono ?_
      rintro e w4 ⟨rfl, bs4, cs4, s4, hp4, hf4⟩
      have HP4 := Lib.hid hp4
      have HF4 := Lib.hid (PairG.clean (HP.out.keep HFX.out) HPW.out HQW.out (HFR.out.trans HFX.out) hf4)
      clear hp4 hf4 b0 b1 b2
      go_wp2_with fail
      refine (alike_any p q bs4 cs4 w4 p q s4 HP4.out.f HP4.out.m).mono ?_
      rintro e w5 ⟨rfl, hf5⟩
      have HP5 := Lib.hid (HP4.out.keep hf5)
      have HF5 := Lib.hid (HF4.out.trans hf5)
      clear hf5
      go_wp2
      go_roundw
      case rel => exact ⟨k + 1, bs4, cs4, s4, by omega, by go_num, HP5.out, HF5.out⟩
      case measure => simp [intOf] <;> omega
    · go_wp2_with fail
      refine (Bytes_F p bs wr p s HP.out.f (nib_keep HN.out HFR.out)).mono ?_
      rintro e w5 ⟨v, rfl, hv⟩
      obtain ⟨g5, c5, rfl, -, -, hb5, hf5⟩ := hv.bytes
      have HB5 := Lib.hid hb5
      have HM5 := Lib.hid (HP.out.m.keep hf5)
      have HF5 := Lib.hid (HFR.out.trans hf5)
      clear hv hb5 hf5
      go_wp2_with fail
      refine (Bytes9 q cs w5 q s HM5.out).mono ?_
      rintro e w6 ⟨v, rfl, hv⟩
      obtain ⟨g6, c6, rfl, -, -, hb6, hf6⟩ := hv.bytes
      have HF6 := Lib.hid (HF5.out.trans hf6)
      have HSM := Lib.hid (same_any (some ⟨g5, 0, none⟩) (some ⟨g6, 0, none⟩) c5 c6 _ _ w6 (fun h => by cases h) (fun h => by cases h) (HB5.out.keep hf6) hb6)
      rw [beq_self_eq_true] at HSM
      clear hv hb6 hf6
      go_wp2_with fail
      refine HSM.out.mono ?_
      rintro e w' ⟨rfl, rfl⟩
      go_wp2
      go_ret
      exact ⟨rfl, HF6.out⟩
end Go.Proofs.YtibhbfmljibeaaaDoor
