/- Tokens: speaks: a run that the document fixes; what has been written is opened again. -/
import Derived.Test.YtlckhfjkdahfpaaDoorTkO
namespace Go.Proofs.YtlckhfjkdahfpaaDoor
open Go.RowKit Go.Maps
attribute [local go_sem ↓] Go.wp_at_zero Go.wp_at_succ
attribute [local go_sem] Oper.semAt_some
theorem recN_zero (s : List UInt8) : (recN s).getD 0 0 = UInt8.ofNat s.length := rfl
theorem u8_len {s : List UInt8} (h : s.length ≤ 40) : (UInt8.ofNat s.length).toNat = s.length := by
  have : (UInt8.ofNat s.length).toNat = s.length % 256 := by simp
  omega
theorem nmT_rec {s : List UInt8} (h : s.length ≤ 40) : nmT (recN s) = s := by
  unfold nmT
  rw [recN_zero, u8_len h]
  show (s ++ List.replicate (40 - s.length) 0).take s.length = s
  rw [List.take_left']
  rfl
theorem okT_recN {s : List UInt8} (hg : goodB s = true) : okT (recN s) = true := by
  have hl := (goodB_ne hg).2
  unfold okT
  rw [nmT_rec hl, hg, recN_zero, u8_len hl, decide_eq_true hl]
  have : ((recN s).drop (1 + s.length)).any (· != 0) = false := by
    rw [List.any_eq_false]
    intro y hy
    have e : (recN s).drop (1 + s.length) = List.replicate (40 - s.length) 0 := by
      show ((UInt8.ofNat s.length) :: (s ++ List.replicate (40 - s.length) 0)).drop (1 + s.length) = _
      rw [show 1 + s.length = s.length + 1 by omega, List.drop_succ_cons, List.drop_left']
      rfl
    rw [e] at hy
    simp [(List.mem_replicate.1 hy).2]
  rw [this]
  rfl
theorem errT_names : ∀ (M N : Nms), NOk (N ++ M) → errT N (recsT M) = 0
  | [], _, _ => rfl
  | s :: M, N, h => by
    by_cases hs : s = []
    · subst hs
      have h' : NOk ((N ++ [[]]) ++ M) := by rw [List.append_assoc]; exact h
      exact errT_names M _ h'
    · have hg := h.good s (by simp) hs
      have h' : NOk ((N ++ [s]) ++ M) := by rw [List.append_assoc]; exact h
      have e : recT s = some (recN s) := by unfold recT; rw [if_neg hs]; rfl
      have hf : findN N s = none := by
        cases hf : findN N s with
        | none => rfl
        | some i =>
          obtain ⟨-, h2⟩ := findN_some hf
          have hi := getD_ne (h2 ▸ hs)
          have e1 : (N ++ s :: M).getD i [] = s := by
            rw [List.getD_eq_getElem?_getD, List.getElem?_append_left hi, ← List.getD_eq_getElem?_getD]
            exact h2
          have e2 : (N ++ s :: M).getD N.length [] = s := by
            rw [List.getD_eq_getElem?_getD, List.getElem?_append_right (Nat.le_refl _), Nat.sub_self]
            rfl
          have := h.inj i N.length (by simp; omega) (by simp) (e1.trans e2.symm) (by rw [e1]; exact hs)
          omega
      show errT N (recT s :: recsT M) = 0
      rw [e]
      show (if okT (recN s) = false then (110 : Int) else if (findN N (nmT (recN s))).isSome = true then 7 else errT (N ++ [nmT (recN s)]) (recsT M)) = 0
      rw [okT_recN hg, nmT_rec (goodB_ne hg).2, hf, if_neg (by decide), if_neg (by decide)]
      exact errT_names M _ h'
theorem recsT_sized {N : Nms} (h : NOk N) : Sized 42 (recsT N) := by
  intro d hd
  obtain ⟨s, hs, he⟩ := List.mem_map.1 hd
  unfold recT at he
  split at he
  · cases he
  · rename_i h0
    have : recN s = d := Option.some.inj he
    rw [← this, recN_length (goodB_ne (h.good s hs h0)).2]
theorem nmO_recs {N : Nms} (h : NOk N) : (recsT N).map nmO = N := by
  unfold recsT
  rw [List.map_map]
  have : ∀ s ∈ N, (nmO ∘ recT) s = s := fun s hs => by
    show nmO (recT s) = s
    unfold recT
    by_cases h0 : s = []
    · rw [if_pos h0, h0]
      rfl
    · rw [if_neg h0]
      exact nmT_rec (goodB_ne (h.good s hs h0)).2
  rw [List.map_congr_left this, List.map_id']
/-- a table's bytes are opened as that table -/
theorem openT_file {kd vr : Nat} {N : Nms} (h : NOk N) (hk : 1 ≤ kd ∧ kd ≤ 3) (hv : vr = 1 ∨ vr = 2) : openT (fileB kd vr 42 (recsT N)) kd vr = .ok N := by
  have hl : (recsT N).length ≤ 200 := by unfold recsT; rw [List.length_map]; exact h.len
  rw [openT_inv (decide_eq_false (by omega)) (openB_file (by omega) (by omega) (by omega) (by omega) (by omega) (recsT_sized h)), if_neg (by simp), if_neg (by simp), if_neg (by omega)]
  have : errT [] (recsT N) = 0 := errT_names N [] h
  rw [if_pos this, nmO_recs h]
theorem same11 (a b : Option Addr) (c d : Nat) (l m : List UInt8) (w : World) (hna : a = none → c = 0) (hnb : b = none → d = 0) (ha : Bytes w a l) (hb : Bytes w b m) :
    Calls Tryd.prog 22 #[.slice a l.length c, .slice b m.length d] w fun e w' => e = .returned (.bool (l == m)) ∧ w = w' := by
  have h1 := conv_any a c l w hna ha
  have h2 := conv_any b d m w hnb hb
  clear hna hnb
  go_enter Tryd.func22, Tryd.ntmps22
  go_wp2_with fail
  go_ret
  exact ⟨rfl, rfl⟩
def spN1 : Nms := [[66]]
def spN2 : Nms := [[66], [65]]
theorem sp_1 : internI [] [66] = 0 ∧ internE [] [66] = 0 ∧ internS [] [66] = spN1 := by decide +kernel
theorem sp_2 : internI spN1 [65] = 1 ∧ internE spN1 [65] = 0 ∧ internS spN1 [65] = spN2 := by decide +kernel
theorem sp_3 : internI spN2 [66] = 0 ∧ internE spN2 [66] = 0 ∧ internS spN2 [66] = spN2 := by decide +kernel
theorem sp_4 : lenN spN2 = 2 ∧ nameN spN2 1 = [65] := by decide +kernel
theorem sp_ok : NOk spN2 := by
  have h1 : NOk spN1 := by
    have := (nok_nilQ).set (s := [66]) (by decide +kernel) (by decide +kernel) (by decide +kernel)
    rw [show setN [] (lowN []) [66] = spN1 by decide +kernel] at this
    exact this
  have := h1.set (s := [65]) (by decide +kernel) (by decide +kernel) (by decide +kernel)
  rw [show setN spN1 (lowN spN1) [65] = spN2 by decide +kernel] at this
  exact this
theorem TB.clean {B : Nat} {bs : List Nat} {w0 w w' : World} {t kd vr : Nat} {N : Nms} (h : TB B bs w t kd vr N) (hB : w0.heap.size ≤ B) (hf : Fr [] w0 w) (hs : Fr bs w w') : Fr [] w0 w' :=
  hf.next hs fun i hi hlt => by have := (h.lt i hi).1; omega
set_option maxRecDepth 100000 in
set_option maxHeartbeats 3200000 in
theorem speaks11 (w : World) (hn : Nib w) : Calls Tryd.prog 9 #[] w fun e w' => e = .returned (.bool true) ∧ Fr [] w w' := by
  have HN := Lib.hid hn
  clear hn
  go_enter Tryd.func9, Tryd.ntmps9
  go_wp2_with fail
  refine (New_T 1 1 w (by decide) (.inl rfl)).mono ?_
  rintro e w1 ⟨t, bs, rfl, ht, hf⟩
  have HT1 := Lib.hid ht
  have HF1 := Lib.hid hf
  have HI := Lib.hid (Intern_T _ bs w1 t 1 1 [] [66] ht (by decide))
  rw [sp_1.1, sp_1.2.1, sp_1.2.2] at HI
  clear ht hf
  go_wp2_with fail
  refine HI.out.mono ?_
  rintro e w2 ⟨rfl, bs2, ht, hs⟩
  have HT2 := Lib.hid ht
  have HF2 := Lib.hid (HT1.out.clean (Nat.le_refl _) HF1.out hs.1)
  have HI2 := Lib.hid (Intern_T _ bs2 w2 t 1 1 spN1 [65] ht (by decide))
  rw [sp_2.1, sp_2.2.1, sp_2.2.2] at HI2
  clear ht hs HI
  go_wp2_with fail
  refine HI2.out.mono ?_
  rintro e w3 ⟨rfl, bs3, ht, hs⟩
  have HT3 := Lib.hid ht
  have HF3 := Lib.hid (HT2.out.clean (Nat.le_refl _) HF2.out hs.1)
  have HI3 := Lib.hid (Intern_T _ bs3 w3 t 1 1 spN2 [66] ht (by decide))
  rw [sp_3.1, sp_3.2.1, sp_3.2.2] at HI3
  clear ht hs HI2
  go_wp2_with fail
  refine HI3.out.mono ?_
  rintro e w4 ⟨rfl, bs4, ht, hs⟩
  have HT4 := Lib.hid ht
  have HF4 := Lib.hid (HT3.out.clean (Nat.le_refl _) HF3.out hs.1)
  have HL := Lib.hid (Len_T _ bs4 w4 t 1 1 spN2 ht)
  rw [sp_4.1] at HL
  have HNA := Lib.hid (Name_T _ bs4 w4 t 1 1 spN2 1 ht)
  rw [sp_4.2, show Str [65] = .string ⟨#[65]⟩ from rfl] at HNA
  have HBY := Lib.hid (Bytes_T _ bs4 w4 t 1 1 spN2 ht (nib_keep HN.out HF4.out))
  clear ht hs HI3
  go_wp2_with fail
  refine HL.out.mono ?_
  rintro e w' ⟨rfl, rfl⟩
  go_wp2_with fail
  refine HNA.out.mono ?_
  rintro e w' ⟨rfl, rfl⟩
  go_wp2_with fail
  refine HBY.out.mono ?_
  rintro e w5 ⟨v, rfl, hfr⟩
  obtain ⟨g, cap, rfl, hg, hg2, hb, hf5⟩ := hfr.bytes
  have hlen : (fileB 1 1 42 (recsT spN2)).length = 100 := by
    rw [fileB_length (recsT_sized sp_ok)]
    decide +kernel
  have hcap := hfr.cap
  have HOP := Lib.hid (Open_T (some ⟨g, 0, none⟩) cap (fileB 1 1 42 (recsT spN2)) 1 1 w5 (by rw [hlen]; decide) hcap hb (nib_keep HN.out (HF4.out.trans hf5)))
  rw [hlen] at HOP
  rw [hlen]
  have HF5 := Lib.hid (HF4.out.trans hf5)
  have HOT := Lib.hid (openT_file (kd := 1) (vr := 1) sp_ok (by decide) (.inl rfl))
  clear hfr hg hg2 hb hf5 hlen hcap HBY HNA HL
  go_wp2_with fail
  refine HOP.out.mono ?_
  rintro e w6 (⟨E, hE, rfl, hf6⟩ | ⟨N, u, us, hE, -, rfl, hu, hf6⟩)
  · exfalso
    have h := HOT.out
    rw [show ((1 : Nat) : Int) = 1 from rfl] at h
    rw [h] at hE
    cases hE
  · have HF6 := Lib.hid (HF5.out.trans hf6)
    clear hE hu hf6
    go_wp2_with fail
    go_ret
    exact ⟨rfl, HF6.out⟩
theorem tokensNames_walk (w : World) (hn : Nib w) : Calls Tryd.prog 3 #[] w fun e w' => e = .returned (.bool true) ∧ Fr [] w w' := by
  have HS := Lib.hid (speaks11 w hn)
  go_enter Tryd.func3, Tryd.ntmps3
  go_wp2_with fail
  refine HS.out.mono ?_
  rintro e w' ⟨rfl, hf⟩
  have HF := Lib.hid hf
  clear hf
  go_wp2
  go_ret
  exact ⟨rfl, HF.out⟩
end Go.Proofs.YtlckhfjkdahfpaaDoor
