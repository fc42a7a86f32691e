/- Record files: speaks. -/
import Derived.Test.YtibhbfmljibeaaaDoorRfJ
namespace Go.Proofs.YtibhbfmljibeaaaDoor
open Go.RowKit
attribute [local go_sem ↓] Go.wp_at_zero Go.wp_at_succ
theorem own_byR {w : World} {B n c e : Nat} {a : Option Addr} {l : List UInt8} (h : w.ownsRow B e 1 (.slice a n c) l.length (l.map B8)) : Bytes w a l ∧ l.length ≤ c := by
  obtain ⟨a', c', e1, h1, h2, _⟩ := Bytes.of_own h
  simp only [Value.slice.injEq] at e1
  obtain ⟨rfl, _, rfl⟩ := e1
  exact ⟨h1, h2⟩
def sp0 : RFS := ⟨4, 1, 3, 0, []⟩
def sp1 : RFS := ⟨4, 1, 3, 0, [none, some (lb [7, 8])]⟩
def spF : List UInt8 := fileB 4 1 3 sp1.R
theorem sp_put : putE sp0 1 (lb [7, 8]).length = 0 ∧ putS sp0 1 (lb [7, 8]) = sp1 := by
  have h : putE sp0 1 (lb [7, 8]).length = 0 := by decide
  refine ⟨h, ?_⟩
  unfold putS
  rw [if_pos h]
  rfl
theorem sp_get : usedR sp1.R 1 = true ∧ getRd sp1.R 1 = lb [7, 8] := ⟨by decide, by decide⟩
theorem sp_live : liveN sp1.R = 1 := by decide
theorem sp_al : alI sp1 = 0 ∧ alE sp1 = 0 := ⟨by decide, by decide⟩
theorem sp_fre : freE (alS sp1) 0 = 0 := by decide
theorem sp_sized : Sized 3 sp1.R := by
  intro d hd
  have e : d = lb [7, 8] := by
    have h2 : some d = none ∨ some d = some (lb [7, 8]) := by simpa [sp1] using hd
    rcases h2 with h2 | h2
    · cases h2
    · exact Option.some.inj h2
  rw [e]
  rfl
theorem spF_len : spF.length = 22 := by
  have h := fileB_length (kd := 4) (vr := 1) sp_sized
  exact h
theorem spF_take : spF.take 12 = lb [83, 82, 69, 67, 4, 1, 0, 3, 0, 0, 0, 2] := by
  unfold spF fileB headB
  rw [List.append_assoc, List.take_append_of_le_length (by rw [h12_length]; exact Nat.le_refl _), List.take_of_length_le (by rw [h12_length]; exact Nat.le_refl _)]
  decide
theorem spF_drop : spF.drop 16 = lb [0, 0, 0, 1, 7, 8] := by
  unfold spF fileB
  rw [List.drop_append_of_le_length (by rw [headB_length]; exact Nat.le_refl _), List.drop_of_length_le (by rw [headB_length]; exact Nat.le_refl _)]
  decide
theorem spF_open : openB spF = .ok (4, 1, 3, sp1.R) := openB_file (by decide) (by decide) (by decide) (by decide) (by decide) sp_sized
set_option maxRecDepth 100000 in
set_option maxHeartbeats 3200000 in
theorem speaks09 (w : World) (hn : Nib w) : Calls Tryd.prog 11 #[] w fun e w' => e = .returned (.bool true) ∧ Fr [] w w' := by
  have HN := Lib.hid hn
  clear hn
  go_enter Tryd.func11, Tryd.ntmps11
  go_wp2_with fail
  refine (New_ok 4 1 3 w (by decide) (by decide) (by decide) (by decide)).mono ?_
  rintro e w1 ⟨rfl, hr, hf⟩
  obtain ⟨p, hp⟩ : ∃ p, p = w.heap.size := ⟨_, rfl⟩
  obtain ⟨bs, hbs⟩ : ∃ bs, bs = [w.heap.size] := ⟨_, rfl⟩
  have hr1 : RF w.heap.size bs w1 p sp0 := by rw [hbs, hp]; exact hr
  rw [← hp]
  have HR1 := Lib.hid hr1
  have HF1 := Lib.hid hf
  clear hr hf hr1 hp hbs
  go_wp2_with fail
  have hB : Bytes (w1.alloc (.cells #[.int .u8 7, .int .u8 8] 5)) (some ⟨w1.heap.size, 0, none⟩) (lb [7, 8]) := Bytes.lit [7, 8] rfl rfl rfl
  have HP : Hid _ := Lib.hid (Put_F w.heap.size bs _ p sp0 1 (some ⟨w1.heap.size, 0, none⟩) 2 (lb [7, 8]) (HR1.out.keep ((Fr.refl [] w1).alloc (.cells #[.int .u8 7, .int .u8 8] 5))) (by decide) (fun h => by cases h) hB)
  rw [sp_put.1, sp_put.2] at HP
  clear hB
  refine HP.out.mono ?_
  rintro e w2 ⟨rfl, bs2, hr2, hs2⟩
  have HR2 := Lib.hid hr2
  have HF2 := Lib.hid (HF1.out.next (((Fr.refl bs w1).alloc (.cells #[.int .u8 7, .int .u8 8] 5)).trans (hs2.1.mono fun k hk _ => hk)) (fun i hi hlt => by have := (HR1.out.lt i hi).1; omega))
  clear HP hr2 hs2
  go_wp2_with fail
  have HG := Lib.hid (Get_F w.heap.size bs2 w2 p sp1 1 HR2.out)
  rw [if_pos sp_get.1, sp_get.2] at HG
  refine HG.out.mono ?_
  rintro e w3 ⟨v, rfl, hg⟩
  obtain ⟨gv, cv, rfl, -, -, hcv⟩ := hg.addr (by decide)
  have hb3 := (own_byR hg.1).1
  have HB3 := Lib.hid hb3
  have HR3 := Lib.hid (HR2.out.keep hg.2)
  have HF3 := Lib.hid (HF2.out.trans hg.2)
  clear HG hg hb3
  have HS3 := Lib.hid (same_any (some ⟨gv, 0, none⟩) (some ⟨w3.heap.size, 0, none⟩) cv 2 (lb [7, 8]) (lb [7, 8]) (w3.alloc (.cells #[.int .u8 7, .int .u8 8] 5)) (fun h => by cases h) (fun h => by cases h) (HB3.out.keep ((Fr.refl [] w3).alloc _)) (Bytes.lit [7, 8] rfl rfl rfl))
  rw [beq_self_eq_true] at HS3
  have hl2 : (lb [7, 8]).length = 2 := rfl
  rw [hl2] at HS3 ⊢
  clear hl2 hcv
  go_wp2_with fail
  refine HS3.out.mono ?_
  rintro e w4 ⟨rfl, hw4⟩
  have HR4 := Lib.hid (HR3.out.keep ((Fr.refl [] w3).alloc (.cells #[.int .u8 7, .int .u8 8] 5)))
  have HF4 := Lib.hid (HF3.out.alloc (.cells #[.int .u8 7, .int .u8 8] 5))
  rw [hw4] at HR4 HF4
  clear HS3 hw4
  go_wp2_with fail
  refine (Count_F w.heap.size bs2 w4 p sp1 HR4.out).mono ?_
  rintro e w' ⟨rfl, rfl⟩
  rw [show ((sp1.R.length : Nat) : Int) = 2 from rfl]
  go_wp2_with fail
  refine (Live_F w.heap.size bs2 w4 p sp1 HR4.out).mono ?_
  rintro e w' ⟨rfl, rfl⟩
  rw [sp_live]
  go_wp2_with fail
  refine (Bytes_F w.heap.size bs2 w4 p sp1 HR4.out (nib_keep HN.out HF4.out)).mono ?_
  rintro e w5 ⟨vx, rfl, hx⟩
  obtain ⟨gx, cx, rfl, hgx, hgl, hbx, hfx⟩ := hx.bytes
  have hcx := hx.cap
  rw [show fileB sp1.kd sp1.vr sp1.sz sp1.R = spF from rfl] at hbx hcx ⊢
  rw [spF_len] at hcx ⊢
  have HBX := Lib.hid hbx
  have HR5 := Lib.hid (HR4.out.keep hfx)
  have HF5 := Lib.hid (HF4.out.trans hfx)
  have HGX : Hid (gx ∉ bs2) := Lib.hid (fun hm => by have := (HR4.out.lt gx hm).2; omega)
  clear hx hgx hgl hbx hfx
  go_wp2_with fail
  refine (Alloc_F w.heap.size bs2 w5 p sp1 HR5.out).mono ?_
  rintro e w6 ⟨rfl, bs6, hr6, hs6⟩
  rw [sp_al.1, sp_al.2]
  have HB6 := Lib.hid (HBX.out.fr hs6.1 (.inr (fun _ e => by cases e; exact HGX.out)))
  have HR6 := Lib.hid hr6
  have HF6 := Lib.hid (HF5.out.next (hs6.1.mono fun k hk _ => hk) (fun i hi hlt => by have := (HR5.out.lt i hi).1; omega))
  clear hr6 hs6
  have HS6 : Hid (Calls Tryd.prog 21 #[.slice (some ⟨gx, 0, none⟩) 12 cx, .slice (some ⟨w6.heap.size, 0, none⟩) 12 12] (w6.alloc (.cells #[.int .u8 83, .int .u8 82, .int .u8 69, .int .u8 67, .int .u8 4, .int .u8 1, .int .u8 0, .int .u8 3, .int .u8 0, .int .u8 0, .int .u8 0, .int .u8 2] 5)) fun e w' => e = .returned (.bool true) ∧ w6.alloc (.cells #[.int .u8 83, .int .u8 82, .int .u8 69, .int .u8 67, .int .u8 4, .int .u8 1, .int .u8 0, .int .u8 3, .int .u8 0, .int .u8 0, .int .u8 0, .int .u8 2] 5) = w') := by
    have hsub := (HB6.out.sub 0 12 (by rw [spF_len]; decide)).keep ((Fr.refl [] w6).alloc (.cells #[.int .u8 83, .int .u8 82, .int .u8 69, .int .u8 67, .int .u8 4, .int .u8 1, .int .u8 0, .int .u8 3, .int .u8 0, .int .u8 0, .int .u8 0, .int .u8 2] 5))
    rw [List.drop_zero, spF_take] at hsub
    have h := same_any (some ⟨gx, 0, none⟩) (some ⟨w6.heap.size, 0, none⟩) cx 12 (lb [83, 82, 69, 67, 4, 1, 0, 3, 0, 0, 0, 2]) (lb [83, 82, 69, 67, 4, 1, 0, 3, 0, 0, 0, 2]) (w6.alloc (.cells #[.int .u8 83, .int .u8 82, .int .u8 69, .int .u8 67, .int .u8 4, .int .u8 1, .int .u8 0, .int .u8 3, .int .u8 0, .int .u8 0, .int .u8 0, .int .u8 2] 5)) (fun h => by cases h) (fun h => by cases h) hsub (Bytes.lit [83, 82, 69, 67, 4, 1, 0, 3, 0, 0, 0, 2] rfl rfl rfl)
    rw [beq_self_eq_true] at h
    exact Lib.hid h
  have hc12 : (12 : Int) ≤ (cx : Int) := by omega
  have hc16 : (16 : Int) ≤ (cx : Int) := by omega
  have hcn : ¬ cx = 16 := by omega
  have HCX := Lib.hid hcx
  clear hcx
  go_wp2_with fail
  refine HS6.out.mono ?_
  rintro e w7 ⟨rfl, hw7⟩
  have HB7 := Lib.hid (HB6.out.keep ((Fr.refl [] w6).alloc (.cells #[.int .u8 83, .int .u8 82, .int .u8 69, .int .u8 67, .int .u8 4, .int .u8 1, .int .u8 0, .int .u8 3, .int .u8 0, .int .u8 0, .int .u8 0, .int .u8 2] 5)))
  have HR7 := Lib.hid (HR6.out.keep ((Fr.refl [] w6).alloc (.cells #[.int .u8 83, .int .u8 82, .int .u8 69, .int .u8 67, .int .u8 4, .int .u8 1, .int .u8 0, .int .u8 3, .int .u8 0, .int .u8 0, .int .u8 0, .int .u8 2] 5)))
  have HF7 := Lib.hid (HF6.out.alloc (.cells #[.int .u8 83, .int .u8 82, .int .u8 69, .int .u8 67, .int .u8 4, .int .u8 1, .int .u8 0, .int .u8 3, .int .u8 0, .int .u8 0, .int .u8 0, .int .u8 2] 5))
  rw [hw7] at HB7 HR7 HF7
  clear HS6 hw7
  have HS7 : Hid (Calls Tryd.prog 21 #[.slice (some ⟨gx, 16, none⟩) 6 (cx - 16), .slice (some ⟨w7.heap.size, 0, none⟩) 6 6] (w7.alloc (.cells #[.int .u8 0, .int .u8 0, .int .u8 0, .int .u8 1, .int .u8 7, .int .u8 8] 5)) fun e w' => e = .returned (.bool true) ∧ w7.alloc (.cells #[.int .u8 0, .int .u8 0, .int .u8 0, .int .u8 1, .int .u8 7, .int .u8 8] 5) = w') := by
    have hsub := (HB7.out.sub 16 6 (by rw [spF_len]; decide)).keep ((Fr.refl [] w7).alloc (.cells #[.int .u8 0, .int .u8 0, .int .u8 0, .int .u8 1, .int .u8 7, .int .u8 8] 5))
    rw [spF_drop, List.take_of_length_le (by decide)] at hsub
    have h := same_any (some ⟨gx, 16, none⟩) (some ⟨w7.heap.size, 0, none⟩) (cx - 16) 6 (lb [0, 0, 0, 1, 7, 8]) (lb [0, 0, 0, 1, 7, 8]) (w7.alloc (.cells #[.int .u8 0, .int .u8 0, .int .u8 0, .int .u8 1, .int .u8 7, .int .u8 8] 5)) (fun h => by cases h) (fun h => by cases h) hsub (Bytes.lit [0, 0, 0, 1, 7, 8] rfl rfl rfl)
    rw [beq_self_eq_true] at h
    exact Lib.hid h
  go_wp2_with fail
  refine HS7.out.mono ?_
  rintro e w8 ⟨rfl, hw8⟩
  have HB8 := Lib.hid (HB7.out.keep ((Fr.refl [] w7).alloc (.cells #[.int .u8 0, .int .u8 0, .int .u8 0, .int .u8 1, .int .u8 7, .int .u8 8] 5)))
  have HR8 := Lib.hid (HR7.out.keep ((Fr.refl [] w7).alloc (.cells #[.int .u8 0, .int .u8 0, .int .u8 0, .int .u8 1, .int .u8 7, .int .u8 8] 5)))
  have HF8 := Lib.hid (HF7.out.alloc (.cells #[.int .u8 0, .int .u8 0, .int .u8 0, .int .u8 1, .int .u8 7, .int .u8 8] 5))
  rw [hw8] at HB8 HR8 HF8
  clear HS7 hw8
  go_wp2_with fail
  have hO := Open_F (some ⟨gx, 0, none⟩) cx spF w8 (by rw [spF_len]; decide) (by rw [spF_len]; exact HCX.out) HB8.out (nib_keep HN.out HF8.out)
  rw [spF_len] at hO
  refine hO.mono ?_
  rintro e w9 (⟨E, h1, _⟩ | ⟨kd, vr, sz, R, q, bq, h1, rfl, h2, h3⟩)
  · rw [spF_open] at h1; cases h1
  rw [spF_open] at h1
  cases h1
  have HQ9 := Lib.hid h2
  have HR9 := Lib.hid (HR8.out.keep h3)
  have HF9 := Lib.hid (HF8.out.trans h3)
  clear hO h2 h3
  go_wp2_with fail
  refine (Count_F w8.heap.size bq w9 q ⟨4, 1, 3, 0, sp1.R⟩ HQ9.out).mono ?_
  rintro e w' ⟨rfl, rfl⟩
  rw [show ((sp1.R.length : Nat) : Int) = 2 from rfl]
  go_wp2_with fail
  refine (Free_F w.heap.size bs6 w9 p (alS sp1) 0 HR9.out).mono ?_
  rintro e w10 ⟨rfl, bs10, hr10, hs10⟩
  rw [sp_fre]
  have HF10 := Lib.hid (HF9.out.next (hs10.1.mono fun k hk _ => hk) (fun i hi hlt => by have := (HR9.out.lt i hi).1; omega))
  clear hr10 hs10
  go_wp2
  go_ret
  exact ⟨rfl, HF10.out⟩
end Go.Proofs.YtibhbfmljibeaaaDoor
