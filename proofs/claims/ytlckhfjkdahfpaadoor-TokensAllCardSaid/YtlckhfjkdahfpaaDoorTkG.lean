/- Tokens: good names, by the document. -/
import Derived.Test.YtlckhfjkdahfpaaDoorTkA
import Derived.BigQuiet
namespace Go.Proofs.YtlckhfjkdahfpaaDoor
open Go.RowKit
attribute [local go_sem ↓] Go.wp_at_zero Go.wp_at_succ
attribute [local go_sem] Oper.semAt_some
def litB : ByteArray := { data := #[97, 98, 99, 100, 101, 102, 103, 104, 105, 106, 107, 108, 109, 110, 111, 112, 113, 114, 115, 116, 117, 118, 119, 120, 121, 122, 65, 66, 67, 68, 69, 70, 71, 72, 73, 74, 75, 76, 77, 78, 79, 80, 81, 82, 83, 84, 85, 86, 87, 88, 89, 90, 95, 48, 49, 50, 51, 52, 53, 54, 55, 56, 57] }
theorem lit_eq : litB = ByteArray.mk (lettersN.map UInt8.ofNat).toArray := by decide +kernel
theorem lit_size : ({ data := #[97, 98, 99, 100, 101, 102, 103, 104, 105, 106, 107, 108, 109, 110, 111, 112, 113, 114, 115, 116, 117, 118, 119, 120, 121, 122, 65, 66, 67, 68, 69, 70, 71, 72, 73, 74, 75, 76, 77, 78, 79, 80, 81, 82, 83, 84, 85, 86, 87, 88, 89, 90, 95, 48, 49, 50, 51, 52, 53, 54, 55, 56, 57] } : ByteArray).size = 63 := by decide +kernel
theorem lit_nat : ∀ k : Nat, k < 63 → ((lettersN.map UInt8.ofNat).getD k 0).toNat = lettersN.getD k 0 := by decide +kernel
theorem lit_at (k : Nat) (h : k < ({ data := #[97, 98, 99, 100, 101, 102, 103, 104, 105, 106, 107, 108, 109, 110, 111, 112, 113, 114, 115, 116, 117, 118, 119, 120, 121, 122, 65, 66, 67, 68, 69, 70, 71, 72, 73, 74, 75, 76, 77, 78, 79, 80, 81, 82, 83, 84, 85, 86, 87, 88, 89, 90, 95, 48, 49, 50, 51, 52, 53, 54, 55, 56, 57] } : ByteArray).size) : (({ data := #[97, 98, 99, 100, 101, 102, 103, 104, 105, 106, 107, 108, 109, 110, 111, 112, 113, 114, 115, 116, 117, 118, 119, 120, 121, 122, 65, 66, 67, 68, 69, 70, 71, 72, 73, 74, 75, 76, 77, 78, 79, 80, 81, 82, 83, 84, 85, 86, 87, 88, 89, 90, 95, 48, 49, 50, 51, 52, 53, 54, 55, 56, 57] } : ByteArray)[k]'h).toNat = lettersN.getD k 0 := by
  have hk : k < 63 := by rw [← lit_size]; exact h
  have h2 : k < (ByteArray.mk (lettersN.map UInt8.ofNat).toArray).size := by rw [← lit_eq]; exact h
  rw [← lit_nat k hk, ← str_at (lettersN.map UInt8.ofNat) k h2]
  have e : ({ data := #[97, 98, 99, 100, 101, 102, 103, 104, 105, 106, 107, 108, 109, 110, 111, 112, 113, 114, 115, 116, 117, 118, 119, 120, 121, 122, 65, 66, 67, 68, 69, 70, 71, 72, 73, 74, 75, 76, 77, 78, 79, 80, 81, 82, 83, 84, 85, 86, 87, 88, 89, 90, 95, 48, 49, 50, 51, 52, 53, 54, 55, 56, 57] } : ByteArray) = ByteArray.mk (lettersN.map UInt8.ofNat).toArray := lit_eq
  congr 1
theorem atL_before {c a : Nat} (h : a < atL c) : lettersN.getD a 0 ≠ c := by
  have ha : a < lettersN.length := Nat.lt_of_lt_of_le h (by rw [lettersN_length]; exact atL_le c)
  rw [List.getD_eq_getElem?_getD, List.getElem?_eq_getElem ha]
  have h2 := List.not_of_lt_findIdx (p := fun x => x == c) (xs := lettersN) h
  simpa using h2
theorem atL_there {c : Nat} (h : atL c < 63) : lettersN.getD (atL c) 0 = c := by
  have ha : atL c < lettersN.length := by rw [lettersN_length]; exact h
  rw [List.getD_eq_getElem?_getD, List.getElem?_eq_getElem ha]
  exact List.getElem_idxOf ha
set_option maxRecDepth 100000 in
set_option maxHeartbeats 3200000 in
theorem GoodName6 (l : List UInt8) (hl : l.length ≤ 140737488351300) (w : World) : Calls Tryd.prog 12 #[.string ⟨l.toArray⟩] w fun e w' => e = .returned (.bool (goodB l)) ∧ Fr [] w w' := by
  have HIX := Lib.hid (str_at l)
  have hsz := str_size l
  generalize ByteArray.mk l.toArray = s at HIX hsz ⊢
  obtain ⟨n, hn⟩ : ∃ n, n = l.length := ⟨_, rfl⟩
  rw [← hn] at hsz hl
  have HN := Lib.hid hn
  clear hn
  by_cases h0 : n < 1
  · have HG : Hid (goodB l = false) := Lib.hid (goodB_false (.inl (List.eq_nil_of_length_eq_zero (by rw [← HN.out]; omega))))
    have h0i : (n : Int) < 1 := by omega
    clear h0
    go_enter Tryd.func12, Tryd.ntmps12
    go_wp2_with fail
    go_ret
    exact ⟨by rw [HG.out]; rfl, Fr.refl _ _⟩
  have h0i : ¬ (n : Int) < 1 := by omega
  by_cases h40 : n ≤ 40
  · have h40i : ¬ (40 : Int) < (n : Int) := by omega
    have HG : Hid (goodB l = (!digB (l.getD 0 0) && l.all chB)) := Lib.hid (by
      unfold goodB
      rw [← HN.out, decide_eq_true (show 1 ≤ n by omega), decide_eq_true h40]
      rfl)
    go_enter Tryd.func12, Tryd.ntmps12
    go_wp2_with fail
    go_loopw [3] (fun q wr => ∃ k : Nat, k ≤ n ∧ q = .int .i64 k ∧ Fr [] w wr ∧ (l.take k).all chB = true ∧ (0 < k → digB (l.getD 0 0) = false)) (fun q _ => n - (intOf q).toNat)
    case atStart => exact ⟨0, by omega, rfl, Fr.refl _ _, rfl, fun h => absurd h (by omega)⟩
    case round =>
      obtain ⟨k, hk, rfl, hf, hall, hdig⟩ := hrel
      have HF := Lib.hid hf
      have HALL := Lib.hid hall
      have HDIG := Lib.hid hdig
      clear hf hall hdig
      have e1 : IntKind.i64.wrap ((k : Int) + 1) = (k : Int) + 1 := IntWalk.i64_in _ (by omega)
      by_cases hlt : k < n
      · have hki : (k : Int) < (n : Int) := by omega
        have hk0 : (0 : Int) ≤ (k : Int) := by omega
        have hck := HIX.out k (by rw [hsz]; exact hlt)
        have hkl : k < l.length := by rw [← HN.out]; exact hlt
        have HNXT := Lib.hid (all_take hkl HALL.out)
        have HNOT := Lib.hid (all_not (l := l) (k := k) hkl)
        obtain ⟨c, hcc⟩ : ∃ c, c = (l.getD k 0).toNat := ⟨_, rfl⟩
        rw [← hcc] at hck
        obtain ⟨A, hA⟩ : ∃ A, A = atL c := ⟨_, rfl⟩
        have hA63 : A ≤ 63 := by rw [hA]; exact atL_le c
        have HAB : Hid (∀ a, a < A → lettersN.getD a 0 ≠ c) := Lib.hid (fun a ha => atL_before (by rw [← hA]; exact ha))
        have HAT : Hid (A < 63 → lettersN.getD A 0 = c) := Lib.hid (fun ha => by rw [hA] at ha ⊢; exact atL_there ha)
        have HCH : Hid (decide (A = 63) = !chB (l.getD k 0)) := Lib.hid (by rw [hA, hcc]; exact atL_ch _)
        have HCD : Hid (chB (l.getD k 0) = true → decide (52 < A) = digB (l.getD k 0)) := Lib.hid (by rw [hA, hcc]; exact atL_dig)
        obtain ⟨W0, hW0⟩ : ∃ W0 : World, W0 = wr := ⟨_, rfl⟩
        clear hcc hkl hA hW0
        go_wp2_with fail
        go_loopw [4] (fun q wx => ∃ a : Nat, a ≤ A ∧ q = .int .i64 a ∧ Fr [] w wx) (fun q _ => A - (intOf q).toNat)
        case atStart => exact ⟨0, by omega, rfl, HF.out⟩
        case round =>
          clear HF
          obtain ⟨a, ha, rfl, hf⟩ := hrel
          have HF := Lib.hid hf
          clear hf
          have e2 : IntKind.i64.wrap ((a : Int) + 1) = (a : Int) + 1 := IntWalk.i64_in _ (by omega)
          by_cases h63 : a < 63
          · have hai : (a : Int) < 63 := by omega
            have ha0 : (0 : Int) ≤ (a : Int) := by omega
            have hls := lit_size
            have hla := lit_at a (by rw [hls]; exact h63)
            obtain ⟨x, hx⟩ : ∃ x, x = lettersN.getD a 0 := ⟨_, rfl⟩
            rw [← hx] at hla
            by_cases hlt2 : a < A
            · have hne : ((x : Int) != (c : Int)) = true := by rw [bne_iff_ne]; have := HAB.out a hlt2; omega
              clear hx
              go_upto_region 7 with fail
              go_quiet (fail)
              obtain ⟨W, hW⟩ : ∃ W, W = wr.drewN nq := ⟨_, rfl⟩
              rw [← hW]
              have HFW := Lib.hid (show Fr [] w W by rw [hW]; exact HF.out.drewN nq)
              clear hW
              go_wp2_with fail
              go_roundw
              case rel => exact ⟨a + 1, by omega, by go_num, HFW.out⟩
              case measure => simp [intOf] <;> omega
            · obtain rfl : A = a := by omega
              have hne : ((x : Int) != (c : Int)) = false := by rw [bne_eq_false_iff_eq]; have := HAT.out h63; omega
              clear hx
              go_upto_region 7 with fail
              go_quiet (fail)
              obtain ⟨W, hW⟩ : ∃ W, W = wr.drewN nq := ⟨_, rfl⟩
              rw [← hW]
              have HFW := Lib.hid (show Fr [] w W by rw [hW]; exact HF.out.drewN nq)
              clear hW
              by_cases hb : A = 63
              · have hbi : ((A : Int) == 63) = true := by rw [hb]; rfl
                have HB : Hid (goodB l = false) := Lib.hid (by
                  have h1 := HCH.out
                  rw [decide_eq_true hb] at h1
                  rw [HG.out, HNOT.out (by simpa using h1.symm)]
                  simp)
                clear hb
                go_wp2_with fail
                go_ret
                exact ⟨by rw [HB.out]; rfl, HFW.out⟩
              · have hbi : ((A : Int) == 63) = false := by rw [beq_eq_false_iff_ne]; omega
                have HCB : Hid (chB (l.getD k 0) = true) := Lib.hid (by
                  have h1 := HCH.out
                  rw [decide_eq_false hb] at h1
                  simpa using h1.symm)
                have hd := HCD.out HCB.out
                clear hb
                by_cases hkz : k = 0
                · have hkzi : ((k : Int) == 0) = true := by rw [hkz]; rfl
                  by_cases h52 : 52 < A
                  · have h52i : (52 : Int) < (A : Int) := by omega
                    have HB : Hid (goodB l = false) := Lib.hid (by
                      rw [decide_eq_true h52, hkz] at hd
                      rw [HG.out, ← hd]
                      rfl)
                    clear hd hkz h52
                    go_wp2_with fail
                    go_ret
                    exact ⟨by rw [HB.out]; rfl, HFW.out⟩
                  · have h52i : ¬ (52 : Int) < (A : Int) := by omega
                    have HB : Hid (digB (l.getD 0 0) = false) := Lib.hid (by
                      rw [decide_eq_false h52, hkz] at hd
                      exact hd.symm)
                    clear hd hkz h52
                    go_wp2_with fail
                    go_roundw
                    case rel => exact ⟨k + 1, by omega, by go_num, HFW.out, HNXT.out HCB.out, fun _ => HB.out⟩
                    case measure => simp [intOf] <;> omega
                · have hkzi : ((k : Int) == 0) = false := by rw [beq_eq_false_iff_ne]; omega
                  have HB : Hid (digB (l.getD 0 0) = false) := Lib.hid (HDIG.out (by omega))
                  clear hd hkz
                  go_wp2_with fail
                  go_roundw
                  case rel => exact ⟨k + 1, by omega, by go_num, HFW.out, HNXT.out HCB.out, fun _ => HB.out⟩
                  case measure => simp [intOf] <;> omega
          · obtain rfl : A = a := by omega
            have hai : ¬ (A : Int) < 63 := by omega
            have hls := lit_size
            go_upto_region 7 with fail
            go_quiet (fail)
            obtain ⟨W, hW⟩ : ∃ W, W = wr.drewN nq := ⟨_, rfl⟩
            rw [← hW]
            have HFW := Lib.hid (show Fr [] w W by rw [hW]; exact HF.out.drewN nq)
            clear hW
            by_cases hb : A = 63
            · have hbi : ((A : Int) == 63) = true := by rw [hb]; rfl
              have HB : Hid (goodB l = false) := Lib.hid (by
                have h1 := HCH.out
                rw [decide_eq_true hb] at h1
                rw [HG.out, HNOT.out (by simpa using h1.symm)]
                simp)
              clear hb
              go_wp2_with fail
              go_ret
              exact ⟨by rw [HB.out]; rfl, HFW.out⟩
            · have hbi : ((A : Int) == 63) = false := by rw [beq_eq_false_iff_ne]; omega
              have HCB : Hid (chB (l.getD k 0) = true) := Lib.hid (by
                have h1 := HCH.out
                rw [decide_eq_false hb] at h1
                simpa using h1.symm)
              have hd := HCD.out HCB.out
              clear hb
              by_cases hkz : k = 0
              · have hkzi : ((k : Int) == 0) = true := by rw [hkz]; rfl
                by_cases h52 : 52 < A
                · have h52i : (52 : Int) < (A : Int) := by omega
                  have HB : Hid (goodB l = false) := Lib.hid (by
                    rw [decide_eq_true h52, hkz] at hd
                    rw [HG.out, ← hd]
                    rfl)
                  clear hd hkz h52
                  go_wp2_with fail
                  go_ret
                  exact ⟨by rw [HB.out]; rfl, HFW.out⟩
                · have h52i : ¬ (52 : Int) < (A : Int) := by omega
                  have HB : Hid (digB (l.getD 0 0) = false) := Lib.hid (by
                    rw [decide_eq_false h52, hkz] at hd
                    exact hd.symm)
                  clear hd hkz h52
                  go_wp2_with fail
                  go_roundw
                  case rel => exact ⟨k + 1, by omega, by go_num, HFW.out, HNXT.out HCB.out, fun _ => HB.out⟩
                  case measure => simp [intOf] <;> omega
              · have hkzi : ((k : Int) == 0) = false := by rw [beq_eq_false_iff_ne]; omega
                have HB : Hid (digB (l.getD 0 0) = false) := Lib.hid (HDIG.out (by omega))
                clear hd hkz
                go_wp2_with fail
                go_roundw
                case rel => exact ⟨k + 1, by omega, by go_num, HFW.out, HNXT.out HCB.out, fun _ => HB.out⟩
                case measure => simp [intOf] <;> omega
      · obtain rfl : n = k := by omega
        have hki : ¬ (n : Int) < (n : Int) := by omega
        have HB : Hid (goodB l = true) := Lib.hid (by
          have h1 := HALL.out
          rw [List.take_of_length_le (by rw [← HN.out]; exact Nat.le_refl _)] at h1
          rw [HG.out, h1, HDIG.out (by omega)]
          rfl)
        go_wp2_with fail
        go_ret
        exact ⟨by rw [HB.out]; rfl, HF.out⟩
  · have h40i : (40 : Int) < (n : Int) := by omega
    have HG : Hid (goodB l = false) := Lib.hid (goodB_false (.inr (.inl (by rw [← HN.out]; omega))))
    go_enter Tryd.func12, Tryd.ntmps12
    go_wp2_with fail
    go_ret
    exact ⟨by rw [HG.out]; rfl, Fr.refl _ _⟩
end Go.Proofs.YtlckhfjkdahfpaaDoor
