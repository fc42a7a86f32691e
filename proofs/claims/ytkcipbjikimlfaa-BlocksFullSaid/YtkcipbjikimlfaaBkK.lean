/- Blocks: speaks: a run that the document fixes. -/
import Derived.Test.YtkcipbjikimlfaaBkJ
import Derived.Lib.SlBytesConst
namespace Go.Proofs.Ytkcipbjikimlfaa
open Go.RowKit
attribute [local go_sem ↓] Go.wp_at_zero Go.wp_at_succ
def sqL : List UInt8 := lb [97, 98, 99, 100, 101, 102, 103, 104, 105, 106, 107, 108, 109, 110, 111, 112, 113, 114, 115, 116, 117, 118, 119, 120, 121, 122, 49, 50, 51, 52]
def sq0 : RFS := ⟨9, 1, 32, 0, []⟩
def sqR1 : Recs := stR [] sqL
def sqR2 : Recs := stR sqR1 []
theorem sqL_len : sqL.length = 30 := rfl
theorem sq_1 : stE sq0 30 = 0 ∧ stI sq0 30 = 0 ∧ stS sq0 sqL = sqR1 := by
  have h : stE sq0 30 = 0 := by decide +kernel
  refine ⟨h, by decide +kernel, ?_⟩
  unfold stS
  rw [sqL_len, if_pos h]
  rfl
theorem sq_2 {t : RFS} (h : Like sq0 t sqR1) : stE t 0 = 0 ∧ stI t 0 = 2 ∧ stS t [] = sqR2 := by
  have hs : t.sz = 32 := h.sz
  have h0 : stE t 0 = 0 := by
    unfold stE
    rw [hs, h.R]
    decide +kernel
  refine ⟨h0, ?_, ?_⟩
  · unfold stI
    rw [if_pos h0, h.R]
    decide +kernel
  · unfold stS
    rw [List.length_nil, if_pos h0, h.R]
    rfl
theorem sq_3 {t : RFS} (hs : t.sz = 32) (hR : t.R = sqR2) : walkE t 0 = ([0, 1], 0) ∧ loadE t 0 = sqL ∧ checkE t = 0 ∧ liveN t.R = 3 := by
  have h1 : walkE t 0 = ([0, 1], 0) := by
    unfold walkE
    rw [hs, hR]
    decide +kernel
  refine ⟨h1, ?_, ?_, ?_⟩
  · unfold loadE
    rw [h1, hR]
    decide +kernel
  · unfold checkE
    rw [hs, hR]
    decide +kernel
  · rw [hR]
    decide +kernel
set_option maxRecDepth 100000 in
set_option maxHeartbeats 3200000 in
theorem speaks10 (w : World) : Calls Try.prog 5 #[] w fun e w' => e = .returned (.bool true) ∧ Fr [] w w' := by
  have kc := fun (w : World) (C : Array Value) (n c : Nat) => Lib.run_convert_bytes_const (P := Try.prog) w 30 5 C n c Try.underlying30 Try.underlying5
  go_enter Try.func5, Try.ntmps5
  go_wp2_with fail
  refine (New_ok 9 1 32 w (by decide) (by decide) (by decide) (by decide)).mono ?_
  rintro e w1 ⟨rfl, hr, hf⟩
  obtain ⟨p, hp⟩ : ∃ p, p = w.heap.size := ⟨_, rfl⟩
  obtain ⟨bs, hbs⟩ : ∃ bs, bs = [w.heap.size] := ⟨_, rfl⟩
  have hr1 : RF w.heap.size bs w1 p sq0 := by rw [hbs, hp]; exact hr
  rw [← hp]
  have HR1 := Lib.hid hr1
  have HF1 := Lib.hid hf
  clear hr hf hr1 hp hbs
  go_wp2_with fail
  generalize hW : World.alloc w1 _ = W
  have hfW : Fr [] w1 W := by rw [← hW]; exact (Fr.refl _ _).alloc _
  have hbW : Bytes W (some ⟨w1.heap.size, 0, none⟩) sqL := by rw [← hW]; exact Bytes.lit [97, 98, 99, 100, 101, 102, 103, 104, 105, 106, 107, 108, 109, 110, 111, 112, 113, 114, 115, 116, 117, 118, 119, 120, 121, 122, 49, 50, 51, 52] rfl rfl rfl
  have HS := Lib.hid (Store_F w.heap.size bs W p sq0 (some ⟨w1.heap.size, 0, none⟩) 30 sqL (HR1.out.keep hfW) (by rw [sqL_len]; decide) (by rw [sqL_len]; decide) (fun h => by cases h) hbW (fun ad e => by cases e; exact fun hm => absurd (HR1.out.lt _ hm).2 (Nat.lt_irrefl _)))
  have HFW := Lib.hid hfW
  rw [sqL_len, sq_1.1, sq_1.2.1, sq_1.2.2] at HS
  clear hW hfW hbW kc
  refine HS.out.mono ?_
  rintro e w2 ⟨rfl, bs2, t, hr2, hl2, hs2⟩
  have HR2 := Lib.hid hr2
  have HL2 := Lib.hid hl2
  have HF2 := Lib.hid ((HF1.out.trans HFW.out).next (hs2.1.mono fun k hk _ => hk) (fun i hi hlt => by have := (HR1.out.lt i hi).1; omega))
  clear HS hr2 hl2 hs2
  go_wp2_with fail
  have HS := Lib.hid (Store_F w.heap.size bs2 w2 p t none 0 [] HR2.out (by decide) (by decide) (fun h => rfl) (Bytes.nil _ _) (fun ad e => by cases e))
  rw [List.length_nil, (sq_2 HL2.out).1, (sq_2 HL2.out).2.1, (sq_2 HL2.out).2.2] at HS
  refine HS.out.mono ?_
  rintro e w3 ⟨rfl, bs3, t3, hr3, hl3, hs3⟩
  have HR3 := Lib.hid hr3
  have HF3 := Lib.hid (HF2.out.next (hs3.1.mono fun k hk _ => hk) (fun i hi hlt => by have := (HR2.out.lt i hi).1; omega))
  have h3 := sq_3 (hl3.sz.trans HL2.out.sz) hl3.R
  have HL := Lib.hid (Load_F w.heap.size bs3 w3 p t3 0 HR3.out)
  rw [h3.1, h3.2.1] at HL
  have HQ := Lib.hid h3
  clear HS hr3 hl3 hs3 h3
  go_wp2_with fail
  refine HL.out.mono ?_
  rintro e w4 ⟨v, rfl, hg⟩
  obtain ⟨gv, cv, rfl, -, -, hcv⟩ := hg.addr (by decide)
  have c29 := hg.1.cells (g := gv) rfl 29 (B8 (UInt8.ofNat 52)) rfl
  rw [addO, Nat.zero_add, show B8 (UInt8.ofNat 52) = .int .u8 52 from by show Value.int .u8 (I8 (UInt8.ofNat 52)) = _; rw [I8_of_nat 52 (by decide)]; rfl] at c29
  have HF4 := Lib.hid (HF3.out.trans hg.2)
  have HR4 := Lib.hid (HR3.out.keep hg.2)
  have HC := Lib.hid (Check_F w.heap.size bs3 w4 p t3 HR4.out)
  rw [HQ.out.2.2.1] at HC
  rw [sqL_len] at hcv ⊢
  clear HL hg hcv
  go_wp2_with fail
  refine HC.out.mono ?_
  rintro e w5 ⟨rfl, hf5⟩
  have HF5 := Lib.hid (HF4.out.trans hf5)
  have HV := Lib.hid (Live_F w.heap.size bs3 w5 p t3 (HR4.out.keep hf5))
  rw [HQ.out.2.2.2] at HV
  clear HC hf5 c29
  go_wp2_with fail
  refine HV.out.mono ?_
  rintro e w' ⟨rfl, rfl⟩
  go_wp2_with fail
  go_ret
  exact ⟨rfl, HF5.out⟩
end Go.Proofs.Ytkcipbjikimlfaa
