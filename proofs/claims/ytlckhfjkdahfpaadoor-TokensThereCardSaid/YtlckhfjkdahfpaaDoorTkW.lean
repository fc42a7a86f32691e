/- Tokens: TokensThere. -/
import Derived.Test.YtlckhfjkdahfpaaDoorTkU
namespace Go.Proofs.YtlckhfjkdahfpaaDoor
open Go.RowKit Go.Maps
attribute [local go_sem ↓] Go.wp_at_zero Go.wp_at_succ
attribute [local go_sem] Oper.semAt_some
theorem internS_ok {N : Nms} (h : NOk N) (l : List UInt8) (he : internE N l = 0) : goodB l = true ∧ findN (internS N l) l = some (internI N l) ∧ nameN (internS N l) (internI N l) = l := by
  unfold internE at he
  unfold internS internI
  by_cases hg : goodB l = false
  · rw [if_pos hg] at he; omega
  · have hgt : goodB l = true := by simpa using hg
    rw [if_neg hg] at he
    rw [if_neg hg, if_neg hg]
    cases hf : findN N l with
    | some i =>
      simp only
      refine ⟨hgt, hf, ?_⟩
      unfold nameN
      rw [if_neg (by omega), Int.toNat_natCast]
      exact (findN_some hf).2
    | none =>
      rw [hf] at he
      simp only [Option.isSome_none] at he
      by_cases hl : 200 ≤ lenN N
      · rw [if_neg (by decide), if_pos hl] at he; omega
      · simp only [if_neg hl]
        refine ⟨hgt, ?_, ?_⟩
        · rw [findN_set h hgt hf (by omega), if_pos rfl]
        · unfold nameN
          rw [if_neg (by omega), Int.toNat_natCast, setN_get (lowN_le N), if_pos rfl]
theorem internE_cases (N : Nms) (l : List UInt8) : internE N l = 0 ∨ internE N l = 60 ∨ internE N l = 66 := by
  unfold internE
  split <;> (try split) <;> (try split) <;> simp
theorem internE_bad {N : Nms} {l : List UInt8} (hg : goodB l = false) : internE N l = 60 := by unfold internE; rw [if_pos hg]
theorem internE_full {N : Nms} {l : List UInt8} (hg : goodB l = true) (h : internE N l ≠ 0) (hN : NOk N) : internE N l = 66 ∧ lenN (internS N l) = 200 := by
  unfold internE at h ⊢
  unfold internS
  have hg2 : ¬ goodB l = false := by rw [hg]; decide
  rw [if_neg hg2] at h ⊢
  rw [if_neg hg2]
  cases hf : findN N l with
  | some i => rw [hf] at h; simp at h
  | none =>
    rw [hf] at h
    simp only [Option.isSome_none] at h ⊢
    by_cases hl : 200 ≤ lenN N
    · rw [if_neg (by decide), if_pos hl]
      simp only [if_pos hl]
      refine ⟨trivial, ?_⟩
      have h1 := lenN_le N
      have h2 := hN.len
      omega
    · rw [if_neg (by decide), if_neg hl] at h
      exact absurd rfl h
/-- a name that is there stays there -/
theorem internS_keep {N : Nms} (h : NOk N) (l x : List UInt8) (i : Nat) (hx : findN N x = some i) : findN (internS N l) x = some i := by
  unfold internS
  by_cases hg : goodB l = false
  · rw [if_pos hg]; exact hx
  · have hgt : goodB l = true := by simpa using hg
    rw [if_neg hg]
    cases hf : findN N l with
    | some i => exact hx
    | none =>
      simp only
      by_cases hl : 200 ≤ lenN N
      · rw [if_pos hl]; exact hx
      · rw [if_neg hl, findN_set h hgt hf (by omega)]
        by_cases e : x = l
        · rw [e, hf] at hx; cases hx
        · rw [if_neg e]; exact hx
theorem findN_bad {N : Nms} (h : NOk N) {x : List UInt8} (hx : goodB x = false) : findN N x = none := by
  cases hf : findN N x with
  | none => rfl
  | some i =>
    have h1 := findN_some hf
    have h2 := h.good (N.getD i []) (by
      have hi := findN_lt hf
      rw [List.getD_eq_getElem?_getD, List.getElem?_eq_getElem hi]
      exact List.getElem_mem hi) (by rw [h1.2]; exact h1.1)
    rw [h1.2, hx] at h2
    cases h2
set_option maxRecDepth 100000 in
set_option maxHeartbeats 6400000 in
theorem tokensThere_walk (sa : Option Addr) (n sc : Nat) (F : Nat → List UInt8) (w : World) (hn2 : n ≤ 140737488351300) (hF : NmsA w sa n F) (hn : Nib w) :
    Calls Tryd.prog 4 #[.slice sa n sc] w fun e w' => e = .returned (.bool true) ∧ Fr [] w w' := by
  have HN := Lib.hid hn
  have HF := Lib.hid hF
  have HSP := Lib.hid (speaks11 w hn)
  clear hn hF
  go_enter Tryd.func4, Tryd.ntmps4
  go_wp2_with fail
  refine HSP.out.mono ?_
  rintro e w1 ⟨rfl, hf1⟩
  have HF1 := Lib.hid hf1
  clear hf1 HSP
  have HA := Lib.hid (New_T 3 2 w1 (by decide) (.inr rfl))
  go_wp2_with fail
  refine HA.out.mono ?_
  rintro e w2 ⟨t, bs, rfl, ht, hf2⟩
  have HT2 := Lib.hid ht
  have HF2 := Lib.hid (HF1.out.trans hf2)
  obtain ⟨B, hB⟩ : ∃ B, B = w1.heap.size := ⟨_, rfl⟩
  rw [← hB] at HT2
  have HBW : Hid (w.heap.size ≤ B) := Lib.hid (by rw [hB]; exact HF1.out.size)
  clear ht hf2 HA hB
  go_wp2_with fail
  go_loopw [34] (fun i wr => ∃ (k : Nat) (bs : List Nat) (N : Nms), k ≤ n ∧ i = .int .i64 k ∧ TB B bs wr t 3 2 N ∧ Fr [] w wr ∧ ∀ j, j < k → goodB (F j) = true → ∃ i, findN N (F j) = some i) (fun i _ => n - (intOf i).toNat)
  case atStart => exact ⟨0, bs, [], by omega, rfl, HT2.out, HF2.out, fun j hj => by omega⟩
  case round =>
    obtain ⟨k, bs, N, hk, rfl, htb, hf, hall⟩ := hrel
    have HT := Lib.hid htb
    have HFR := Lib.hid hf
    have HALL := Lib.hid hall
    clear htb hf hall HT2 HF2
    have HOK : Hid (NOk N) := Lib.hid (by obtain ⟨_, _, _, _, _, hh, -⟩ := HT.out; exact hh.ok)
    by_cases hlt : k < n
    · obtain ⟨sb, so, rfl, c0⟩ := (HF.out.keep HFR.out).cell k hlt
      have HOL := Lib.hid (HF.out.len k hlt)
      obtain ⟨od, hod⟩ : ∃ z, z = F k := ⟨_, rfl⟩
      rw [← hod] at HOL c0
      have HOD := Lib.hid hod
      obtain ⟨S, hS⟩ : ∃ S, S = ByteArray.mk od.toArray := ⟨_, rfl⟩
      rw [← hS] at c0
      have HI : Hid (Calls Tryd.prog 11 #[.pointer (some ⟨t, 0, none⟩), .string S] wr fun e w' => e = .returned (.tuple #[.int .i64 (internI N od : Nat), .int .i64 (internE N od)]) ∧ ∃ bs', TB B bs' w' t 3 2 (internS N od) ∧ Stp bs wr bs' w') := Lib.hid (by rw [hS]; exact Intern_T B bs wr t 3 2 N od HT.out (by have := HOL.out; omega))
      have HG : Hid (∀ W, Calls Tryd.prog 12 #[.string S] W fun e w' => e = .returned (.bool (goodB od)) ∧ Fr [] W w') := Lib.hid fun W => by rw [hS]; exact GoodName6 od (by have := HOL.out; omega) W
      have HFD : Hid (∀ W bs N, TB B bs W t 3 2 N → Calls Tryd.prog 15 #[.pointer (some ⟨t, 0, none⟩), .string S] W fun e w' => e = .returned (.tuple #[.int .i64 ((findN N od).getD 0 : Nat), .bool (findN N od).isSome]) ∧ W = w') := Lib.hid fun W bs N hW => by rw [hS]; exact Find_T B bs W t 3 2 N od hW (by have := HOL.out; omega)
      have HSS := Lib.hid hS
      have hki : (k : Int) < (n : Int) := by omega
      have hk0 : (0 : Int) ≤ (k : Int) := by omega
      have ek : IntKind.i64.wrap ((k : Int) + 1) = (k : Int) + 1 := IntWalk.i64_in _ (by omega)
      clear hod hS
      go_wp2_with fail
      refine HI.out.mono ?_
      rintro e w3 ⟨rfl, bs3, h3, s3⟩
      have HT3 := Lib.hid h3
      have HF3 := Lib.hid (HT.out.clean HBW.out HFR.out s3.1)
      clear h3 s3 HI c0
      by_cases hg : goodB od = true
      · rw [hg] at HG
        have HGG := Lib.hid hg
        by_cases he : internE N od = 0
        · have HIS := Lib.hid (internS_ok HOK.out od he)
          have HNEXT : Hid (∀ j, j < k + 1 → goodB (F j) = true → ∃ i, findN (internS N od) (F j) = some i) := Lib.hid fun j hj hgj => by
            by_cases hjk : j = k
            · subst hjk
              rw [← HOD.out]
              exact ⟨_, HIS.out.2.1⟩
            · obtain ⟨i, hi⟩ := HALL.out j (by omega) hgj
              exact ⟨i, internS_keep HOK.out od _ i hi⟩
          rw [he]
          obtain ⟨I, hI⟩ : ∃ I, I = internI N od := ⟨_, rfl⟩
          rw [← hI] at HIS
          simp only [← hI]
          obtain ⟨N3, hN3⟩ : ∃ N3, N3 = internS N od := ⟨_, rfl⟩
          rw [← hN3] at HIS HNEXT HT3
          clear he hI hN3 hg
          go_wp2_with fail
          refine (HG.out w3).mono ?_
          rintro e w4 ⟨rfl, hf4⟩
          have HT4 := Lib.hid (HT3.out.keep hf4)
          have HF4 := Lib.hid (HF3.out.trans hf4)
          have HNM := Lib.hid (Name_T B bs3 w4 t 3 2 N3 I HT4.out)
          rw [HIS.out.2.2, show Str od = .string S by rw [HSS.out]; rfl, show (od != []) = true from bne_iff_ne.2 (goodB_ne HGG.out).1] at HNM
          have HFI := Lib.hid (HFD.out w4 bs3 N3 HT4.out)
          rw [HIS.out.2.1] at HFI
          simp only [Option.getD_some, Option.isSome_some] at HFI
          clear hf4
          have hii : ((I : Int) != (I : Int)) = false := by simp
          go_wp2_with fail
          refine HNM.out.mono ?_
          rintro e w' ⟨rfl, rfl⟩
          go_wp2_with fail
          refine HFI.out.mono ?_
          rintro e w' ⟨rfl, rfl⟩
          go_wp2
          go_roundw
          case rel => exact ⟨k + 1, bs3, N3, by omega, by go_num, HT4.out, HF4.out, HNEXT.out⟩
          case measure => simp [intOf] <;> omega
        · obtain ⟨h66, h200⟩ := internE_full hg he HOK.out
          rw [h66]
          have HL : Hid (∀ W, TB B bs3 W t 3 2 (internS N od) → Calls Tryd.prog 13 #[.pointer (some ⟨t, 0, none⟩)] W fun e w' => e = .returned (.int .i64 200) ∧ W = w') := Lib.hid fun W hW => by
            have := Len_T B bs3 W t 3 2 _ hW
            rw [h200] at this
            exact this
          obtain ⟨I, hI⟩ : ∃ I, I = internI N od := ⟨_, rfl⟩
          simp only [← hI]
          clear he h66 h200 hg hI
          go_wp2_with fail
          refine (HG.out w3).mono ?_
          rintro e w4 ⟨rfl, hf4⟩
          have HT4 := Lib.hid (HT3.out.keep hf4)
          have HF4 := Lib.hid (HF3.out.trans hf4)
          clear hf4
          go_wp2_with fail
          refine (HL.out w4 HT4.out).mono ?_
          rintro e w' ⟨rfl, rfl⟩
          go_wp2
          go_ret
          exact ⟨rfl, HF4.out⟩
      · have hgf : goodB od = false := by simpa using hg
        rw [hgf] at HG
        rw [internE_bad hgf]
        have HNEXT : Hid (∀ j, j < k + 1 → goodB (F j) = true → ∃ i, findN (internS N od) (F j) = some i) := Lib.hid fun j hj hgj => by
          by_cases hjk : j = k
          · subst hjk
            rw [← HOD.out, hgf] at hgj
            cases hgj
          · obtain ⟨i, hi⟩ := HALL.out j (by omega) hgj
            exact ⟨i, internS_keep HOK.out od _ i hi⟩
        obtain ⟨I, hI⟩ : ∃ I, I = internI N od := ⟨_, rfl⟩
        simp only [← hI]
        clear hgf hg hI
        go_wp2_with fail
        refine (HG.out w3).mono ?_
        rintro e w4 ⟨rfl, hf4⟩
        have HT4 := Lib.hid (HT3.out.keep hf4)
        have HF4 := Lib.hid (HF3.out.trans hf4)
        clear hf4
        go_wp2
        go_roundw
        case rel => exact ⟨k + 1, bs3, _, by omega, by go_num, HT4.out, HF4.out, HNEXT.out⟩
        case measure => simp [intOf] <;> omega
    · obtain rfl : k = n := by omega
      have hki : ¬ (k : Int) < (k : Int) := by omega
      obtain ⟨D, hD⟩ : ∃ D, D = fileB 3 2 42 (recsT N) := ⟨_, rfl⟩
      have HBY := Lib.hid (Bytes_T B bs wr t 3 2 N HT.out (nib_keep HN.out HFR.out))
      rw [← hD] at HBY
      have HOT : Hid (openT D 3 2 = .ok N) := Lib.hid (by rw [hD]; exact openT_file (kd := 3) (vr := 2) HOK.out (by decide) (.inr rfl))
      have HDL : Hid (D.length ≤ 140737488351300) := Lib.hid (by
        rw [hD, fileB_length (recsT_sized HOK.out)]
        have h1 : (recsT N).length ≤ 200 := by unfold recsT; rw [List.length_map]; exact HOK.out.len
        omega)
      clear hD
      go_wp2_with fail
      refine HBY.out.mono ?_
      rintro e w3 ⟨v, rfl, hv⟩
      obtain ⟨g, cap, rfl, -, -, hb3, hf3⟩ := hv.bytes
      have hcap := hv.cap
      have HF3 := Lib.hid (HFR.out.trans hf3)
      have HT3 := Lib.hid (HT.out.keep hf3)
      have HOP := Lib.hid (Open_T (some ⟨g, 0, none⟩) cap D 3 2 w3 HDL.out hcap hb3 (nib_keep HN.out HF3.out))
      clear hv hb3 hf3 hcap HBY
      go_wp2_with fail
      refine HOP.out.mono ?_
      rintro e w4 (⟨E, hE, rfl, hf4⟩ | ⟨N', u, us, hE, -, rfl, hu, hf4⟩)
      · rw [HOT.out] at hE
        cases hE
      · obtain rfl : N = N' := by rw [HOT.out] at hE; cases hE; rfl
        have HF4 := Lib.hid (HF3.out.trans hf4)
        have HT4 := Lib.hid (HT3.out.keep hf4)
        have HU4 := Lib.hid hu
        have HLT := Lib.hid (Len_T B bs w4 t 3 2 N HT4.out)
        have HLU := Lib.hid (Len_T _ us w4 u 3 2 N hu)
        obtain ⟨L, hL⟩ : ∃ L, L = lenN N := ⟨_, rfl⟩
        rw [← hL] at HLT HLU
        have hll : ((L : Int) != (L : Int)) = false := by simp
        clear hE hu hf4 HOP hL
        go_wp2_with fail
        refine HLU.out.mono ?_
        rintro e w' ⟨rfl, rfl⟩
        go_wp2_with fail
        refine HLT.out.mono ?_
        rintro e w' ⟨rfl, rfl⟩
        go_wp2_with fail
        go_loopw [108] (fun i wr => ∃ j : Nat, j ≤ k ∧ i = .int .i64 j ∧ Fr [] w4 wr) (fun i _ => k - (intOf i).toNat)
        case atStart => exact ⟨0, by omega, rfl, Fr.refl _ _⟩
        case round =>
          obtain ⟨j, hj, rfl, hf5⟩ := hrel
          have HF5 := Lib.hid hf5
          clear hf5
          by_cases hlt2 : j < k
          · obtain ⟨sb, so, rfl, c0⟩ := (HF.out.keep (HF4.out.trans HF5.out)).cell j hlt2
            have HOL := Lib.hid (HF.out.len j hlt2)
            obtain ⟨od, hod⟩ : ∃ z, z = F j := ⟨_, rfl⟩
            rw [← hod] at HOL c0
            have HSOME : Hid ((findN N od).isSome = goodB od) := Lib.hid (by
              by_cases hg : goodB od = true
              · obtain ⟨i, hi⟩ := HALL.out j hlt2 (by rw [← hod]; exact hg)
                rw [← hod] at hi
                rw [hi, hg]; rfl
              · have hg2 : goodB od = false := by simpa using hg
                rw [findN_bad HOK.out hg2, hg2]; rfl)
            obtain ⟨S, hS⟩ : ∃ S, S = ByteArray.mk od.toArray := ⟨_, rfl⟩
            rw [← hS] at c0
            have HG : Hid (∀ W, Calls Tryd.prog 12 #[.string S] W fun e w' => e = .returned (.bool (goodB od)) ∧ Fr [] W w') := Lib.hid fun W => by rw [hS]; exact GoodName6 od (by have := HOL.out; omega) W
            have HFT : Hid (Calls Tryd.prog 15 #[.pointer (some ⟨t, 0, none⟩), .string S] wr fun e w' => e = .returned (.tuple #[.int .i64 ((findN N od).getD 0 : Nat), .bool (goodB od)]) ∧ wr = w') := Lib.hid (by rw [hS, ← HSOME.out]; exact Find_T B bs wr t 3 2 N od (HT4.out.keep HF5.out) (by have := HOL.out; omega))
            have HFU : Hid (Calls Tryd.prog 15 #[.pointer (some ⟨u, 0, none⟩), .string S] wr fun e w' => e = .returned (.tuple #[.int .i64 ((findN N od).getD 0 : Nat), .bool (goodB od)]) ∧ wr = w') := Lib.hid (by rw [hS, ← HSOME.out]; exact Find_T _ us wr u 3 2 N od (HU4.out.keep HF5.out) (by have := HOL.out; omega))
            obtain ⟨I, hI⟩ : ∃ I, I = (findN N od).getD 0 := ⟨_, rfl⟩
            rw [← hI] at HFT HFU
            obtain ⟨G, hG⟩ : ∃ G, G = goodB od := ⟨_, rfl⟩
            rw [← hG] at HFT HFU HG
            have hii : ((I : Int) != (I : Int)) = false := by simp
            have hgg : (G != G) = false := by simp
            clear hod hS hI hG HSOME HOL
            have hki2 : (j : Int) < (k : Int) := by omega
            have hk0 : (0 : Int) ≤ (j : Int) := by omega
            have ek : IntKind.i64.wrap ((j : Int) + 1) = (j : Int) + 1 := IntWalk.i64_in _ (by omega)
            go_wp2_with fail
            refine HFT.out.mono ?_
            rintro e w' ⟨rfl, rfl⟩
            go_wp2_with fail
            refine HFU.out.mono ?_
            rintro e w' ⟨rfl, rfl⟩
            go_wp2_with fail
            refine (HG.out wr).mono ?_
            rintro e w6 ⟨rfl, hf6⟩
            have HF6 := Lib.hid (HF5.out.trans hf6)
            clear hf6
            cases G
            all_goals
              go_wp2
              go_roundw
              case rel => exact ⟨j + 1, by omega, by go_num, HF6.out⟩
              case measure => simp [intOf] <;> omega
          · obtain rfl : j = k := by omega
            have hki2 : ¬ (j : Int) < (j : Int) := by omega
            have HF6 := Lib.hid (HF4.out.trans HF5.out)
            go_wp2
            go_ret
            exact ⟨rfl, HF6.out⟩
end Go.Proofs.YtlckhfjkdahfpaaDoor
