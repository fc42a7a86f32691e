/- Tokens: good names, by the program and by the document. (printed by gen_tka.py) -/
import Derived.Test.YtlckhfjkdahfpaaDoorTkQ
import Derived.Test.YtlckhfjkdahfpaaDoorWireN
import Derived.Test.YtlckhfjkdahfpaaDoorRfE
namespace Go.Proofs.YtlckhfjkdahfpaaDoor
open Go.RowKit
attribute [local go_sem ↓] Go.wp_at_zero Go.wp_at_succ
attribute [local go_sem] Oper.semAt_some
/-- a string, by its bytes -/
def Str (l : List UInt8) : Value := .string ⟨l.toArray⟩
theorem str_size (l : List UInt8) : (ByteArray.mk l.toArray).size = l.length := by simp [ByteArray.size]
theorem str_index (l : List UInt8) (k : Nat) (hk : k < l.length) (w : World) : (Instr.index 9 (.string ⟨l.toArray⟩) (.int .i64 (k : Int))).run Tryd.prog w = .ok (.int .u8 ((l.getD k 0).toNat : Nat)) w := by
  have hsz := str_size l
  rw [run_index_string w 9 ⟨l.toArray⟩ .i64 (k : Int) Tryd.underlying9, dif_pos ⟨by omega, by omega⟩]
  have h : (ByteArray.mk l.toArray)[((k : Int)).toNat]'(by rw [hsz, Int.toNat_natCast]; exact hk) = l.getD k 0 := by
    show l.toArray[((k : Int)).toNat]'(by rw [Int.toNat_natCast]; simpa using hk) = _
    simp only [Int.toNat_natCast, List.getElem_toArray]
    rw [List.getD_eq_getElem?_getD, List.getElem?_eq_getElem hk]
    rfl
  simp only [h]
theorem str_at (l : List UInt8) (k : Nat) (hk : k < (ByteArray.mk l.toArray).size) : ((ByteArray.mk l.toArray)[k]'hk).toNat = (l.getD k 0).toNat := by
  have hk2 : k < l.length := by rw [← str_size l]; exact hk
  show (l.toArray[k]'(by simpa using hk2)).toNat = _
  rw [List.getElem_toArray, List.getD_eq_getElem?_getD, List.getElem?_eq_getElem hk2]
  rfl
theorem goodB_false {l : List UInt8} (h : l = [] ∨ 40 < l.length ∨ digB (l.getD 0 0) = true) : goodB l = false := by
  unfold goodB
  rcases h with rfl | h | h
  · rfl
  · rw [decide_eq_false (show ¬ l.length ≤ 40 by omega)]
    simp
  · rw [h]
    simp
theorem all_take {l : List UInt8} {k : Nat} (hk : k < l.length) (h : (l.take k).all chB = true) (hc : chB (l.getD k 0) = true) : (l.take (k + 1)).all chB = true := by
  rw [take_snoc l k hk, List.all_append, h]
  rw [List.getD_eq_getElem?_getD, List.getElem?_eq_getElem hk] at hc
  simpa using hc
theorem all_not {l : List UInt8} {k : Nat} (hk : k < l.length) (hc : chB (l.getD k 0) = false) : l.all chB = false := by
  rw [List.all_eq_false]
  refine ⟨l.getD k 0, ?_, by rw [hc]; simp⟩
  rw [List.getD_eq_getElem?_getD, List.getElem?_eq_getElem hk]
  exact List.getElem_mem hk
set_option maxRecDepth 100000 in
set_option maxHeartbeats 3200000 in
theorem GoodName_F (l : List UInt8) (hl : l.length ≤ 140737488351300) (w : World) : Calls Tryd.prog 29 #[.string ⟨l.toArray⟩] w fun e w' => e = .returned (.bool (goodB l)) ∧ w = w' := by
  have HIX := Lib.hid (str_at l)
  have hsz := str_size l
  have hnil : (ByteArray.mk l.toArray).toList = l := ByteArray.toList_mk l
  generalize ByteArray.mk l.toArray = s at HIX hsz hnil ⊢
  obtain ⟨n, hn⟩ : ∃ n, n = l.length := ⟨_, rfl⟩
  rw [← hn] at hsz hl
  have HN := Lib.hid hn
  clear hn
  by_cases h0 : l = []
  · have HG : Hid (goodB l = false) := Lib.hid (goodB_false (.inl h0))
    rw [h0] at hnil
    clear h0
    go_enter Tryd.func29, Tryd.ntmps29
    go_wp2_with fail
    go_ret
    exact ⟨by rw [HG.out]; rfl, rfl⟩
  have hn0 : 0 < n := by rw [HN.out]; exact List.length_pos_iff.2 h0
  have hnl : s.toList.isEmpty = false := by rw [hnil]; simpa using h0
  have hnm : ¬ s.toList = [] := by rw [hnil]; exact h0
  clear hnil
  by_cases h40 : n ≤ 40
  · have h40i : ¬ (40 : Int) < (n : Int) := by omega
    have hc0 := HIX.out 0 (by rw [hsz]; exact hn0)
    obtain ⟨c0, hcc⟩ : ∃ c0, c0 = (l.getD 0 0).toNat := ⟨_, rfl⟩
    rw [← hcc] at hc0
    have HC0 := Lib.hid hcc
    by_cases hd : 48 ≤ c0 ∧ c0 ≤ 57
    · have HG : Hid (goodB l = false) := Lib.hid (goodB_false (.inr (.inr (by unfold digB; rw [← hcc]; exact decide_eq_true hd))))
      have i1 : (48 : Int) ≤ (c0 : Int) := by omega
      have i2 : (c0 : Int) ≤ 57 := by omega
      clear hd hcc h0
      go_enter Tryd.func29, Tryd.ntmps29
      go_wp2_with fail
      go_ret
      exact ⟨by rw [HG.out]; rfl, rfl⟩
    · have HG : Hid (goodB l = l.all chB) := Lib.hid (by
        unfold goodB digB
        rw [← hcc, decide_eq_false hd, ← HN.out, decide_eq_true (show 1 ≤ n by omega), decide_eq_true h40]
        rfl)
      clear hcc h0
      go_enter Tryd.func29, Tryd.ntmps29
      go_upto_region 1 with fail
      go_cut [21] (fun v wx => v = .bool false ∧ wx = w)
      case first =>
        by_cases h48 : 48 ≤ c0
        · have i1 : (48 : Int) ≤ (c0 : Int) := by omega
          have i2 : ¬ (c0 : Int) ≤ 57 := by omega
          clear hd h48
          go_wp2_with fail
          go_meet
          exact ⟨rfl, rfl⟩
        · have i1 : ¬ (48 : Int) ≤ (c0 : Int) := by omega
          clear hd h48
          go_wp2_with fail
          go_meet
          exact ⟨rfl, rfl⟩
      case rest =>
        obtain ⟨rfl, rfl⟩ := hcut
        go_wp2_with fail
        go_loopw [24] (fun q wr => ∃ k : Nat, k ≤ n ∧ q = .int .i64 k ∧ wc = wr ∧ (l.take k).all chB = true) (fun q _ => n - (intOf q).toNat)
        case atStart => exact ⟨0, by omega, rfl, by first | rfl | trivial, rfl⟩
        case round =>
          obtain ⟨k, hk, rfl, rfl, hall⟩ := hrel
          have HALL := Lib.hid hall
          clear hall hc0
          have e1 : IntKind.i64.wrap ((k : Int) + 1) = (k : Int) + 1 := IntWalk.i64_in _ (by omega)
          by_cases hlt : k < n
          · have hki : (k : Int) < (n : Int) := by omega
            have hk0 : (0 : Int) ≤ (k : Int) := by omega
            have hck := HIX.out k (by rw [hsz]; exact hlt)
            have hkl : k < l.length := by rw [← HN.out]; exact hlt
            have HNXT := Lib.hid (all_take hkl HALL.out)
            have HNOT := Lib.hid (all_not (l := l) (k := k) hkl)
            obtain ⟨c, hcc⟩ : ∃ c, c = (l.getD k 0).toNat := ⟨_, rfl⟩
            rw [← hcc] at hck
            have hc : (97 ≤ c ∧ c ≤ 122) ∨ 123 ≤ c ∨ (65 ≤ c ∧ c ≤ 90) ∨ (91 ≤ c ∧ c ≤ 96 ∧ c ≠ 95) ∨ c = 95 ∨ (58 ≤ c ∧ c ≤ 64) ∨ (48 ≤ c ∧ c ≤ 57) ∨ c < 48 := by omega
            rcases hc with hc | hc | hc | hc | hc | hc | hc | hc
            · -- a..z
              have i0 : (97 : Int) ≤ (c : Int) := by omega
              have i1 : (c : Int) ≤ 122 := by omega
              have HCH : Hid (chB (l.getD k 0) = true) := Lib.hid (by unfold chB digB; rw [← hcc]; simp; omega)
              clear hcc hkl hc
              go_wp2_with fail
              go_roundw
              case rel => exact ⟨k + 1, by omega, by go_num, by first | rfl | trivial, HNXT.out HCH.out⟩
              case measure => simp [intOf] <;> omega
            · -- behind z
              have i0 : (97 : Int) ≤ (c : Int) := by omega
              have i1 : ¬ (c : Int) ≤ 122 := by omega
              have i2 : (65 : Int) ≤ (c : Int) := by omega
              have i3 : ¬ (c : Int) ≤ 90 := by omega
              have i4 : (48 : Int) ≤ (c : Int) := by omega
              have i5 : ¬ (c : Int) ≤ 57 := by omega
              have i6 : ((c : Int) == 95) = false := by rw [beq_eq_false_iff_ne]; omega
              have HCH : Hid (chB (l.getD k 0) = false) := Lib.hid (by unfold chB digB; rw [← hcc]; simp; omega)
              clear hcc hkl hc
              go_wp2_with fail
              go_ret
              exact ⟨by rw [HG.out, HNOT.out HCH.out]; rfl, rfl⟩
            · -- A..Z
              have i0 : ¬ (97 : Int) ≤ (c : Int) := by omega
              have i1 : (65 : Int) ≤ (c : Int) := by omega
              have i2 : (c : Int) ≤ 90 := by omega
              have HCH : Hid (chB (l.getD k 0) = true) := Lib.hid (by unfold chB digB; rw [← hcc]; simp; omega)
              clear hcc hkl hc
              go_wp2_with fail
              go_roundw
              case rel => exact ⟨k + 1, by omega, by go_num, by first | rfl | trivial, HNXT.out HCH.out⟩
              case measure => simp [intOf] <;> omega
            · -- behind Z
              have i0 : ¬ (97 : Int) ≤ (c : Int) := by omega
              have i1 : (65 : Int) ≤ (c : Int) := by omega
              have i2 : ¬ (c : Int) ≤ 90 := by omega
              have i3 : (48 : Int) ≤ (c : Int) := by omega
              have i4 : ¬ (c : Int) ≤ 57 := by omega
              have i5 : ((c : Int) == 95) = false := by rw [beq_eq_false_iff_ne]; omega
              have HCH : Hid (chB (l.getD k 0) = false) := Lib.hid (by unfold chB digB; rw [← hcc]; simp; omega)
              clear hcc hkl hc
              go_wp2_with fail
              go_ret
              exact ⟨by rw [HG.out, HNOT.out HCH.out]; rfl, rfl⟩
            · -- _
              have i0 : ¬ (97 : Int) ≤ (c : Int) := by omega
              have i1 : (65 : Int) ≤ (c : Int) := by omega
              have i2 : ¬ (c : Int) ≤ 90 := by omega
              have i3 : (48 : Int) ≤ (c : Int) := by omega
              have i4 : ¬ (c : Int) ≤ 57 := by omega
              have i5 : ((c : Int) == 95) = true := by rw [show c = 95 by omega]; rfl
              have HCH : Hid (chB (l.getD k 0) = true) := Lib.hid (by unfold chB digB; rw [← hcc]; simp; omega)
              clear hcc hkl hc
              go_wp2_with fail
              go_roundw
              case rel => exact ⟨k + 1, by omega, by go_num, by first | rfl | trivial, HNXT.out HCH.out⟩
              case measure => simp [intOf] <;> omega
            · -- behind 9
              have i0 : ¬ (97 : Int) ≤ (c : Int) := by omega
              have i1 : ¬ (65 : Int) ≤ (c : Int) := by omega
              have i2 : (48 : Int) ≤ (c : Int) := by omega
              have i3 : ¬ (c : Int) ≤ 57 := by omega
              have i4 : ((c : Int) == 95) = false := by rw [beq_eq_false_iff_ne]; omega
              have HCH : Hid (chB (l.getD k 0) = false) := Lib.hid (by unfold chB digB; rw [← hcc]; simp; omega)
              clear hcc hkl hc
              go_wp2_with fail
              go_ret
              exact ⟨by rw [HG.out, HNOT.out HCH.out]; rfl, rfl⟩
            · -- 0..9
              have i0 : ¬ (97 : Int) ≤ (c : Int) := by omega
              have i1 : ¬ (65 : Int) ≤ (c : Int) := by omega
              have i2 : (48 : Int) ≤ (c : Int) := by omega
              have i3 : (c : Int) ≤ 57 := by omega
              have HCH : Hid (chB (l.getD k 0) = true) := Lib.hid (by unfold chB digB; rw [← hcc]; simp; omega)
              clear hcc hkl hc
              go_wp2_with fail
              go_roundw
              case rel => exact ⟨k + 1, by omega, by go_num, by first | rfl | trivial, HNXT.out HCH.out⟩
              case measure => simp [intOf] <;> omega
            · -- ahead of 0
              have i0 : ¬ (97 : Int) ≤ (c : Int) := by omega
              have i1 : ¬ (65 : Int) ≤ (c : Int) := by omega
              have i2 : ¬ (48 : Int) ≤ (c : Int) := by omega
              have i3 : ((c : Int) == 95) = false := by rw [beq_eq_false_iff_ne]; omega
              have HCH : Hid (chB (l.getD k 0) = false) := Lib.hid (by unfold chB digB; rw [← hcc]; simp; omega)
              clear hcc hkl hc
              go_wp2_with fail
              go_ret
              exact ⟨by rw [HG.out, HNOT.out HCH.out]; rfl, rfl⟩
          · obtain rfl : n = k := by omega
            have hki : ¬ (n : Int) < (n : Int) := by omega
            go_wp2_with fail
            go_ret
            exact ⟨by rw [HG.out, ← HALL.out, List.take_of_length_le (by rw [← HN.out]; exact Nat.le_refl _)]; rfl, rfl⟩
  · have h40i : (40 : Int) < (n : Int) := by omega
    have HG : Hid (goodB l = false) := Lib.hid (goodB_false (.inr (.inl (by rw [← HN.out]; omega))))
    clear h0
    go_enter Tryd.func29, Tryd.ntmps29
    go_wp2_with fail
    go_ret
    exact ⟨by rw [HG.out]; rfl, rfl⟩
end Go.Proofs.YtlckhfjkdahfpaaDoor
