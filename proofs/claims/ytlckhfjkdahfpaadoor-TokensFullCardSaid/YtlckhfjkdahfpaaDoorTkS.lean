/- Tokens: TokensFull. -/
import Derived.Test.YtlckhfjkdahfpaaDoorTkR
namespace Go.Proofs.YtlckhfjkdahfpaaDoor
open Go.RowKit Go.Maps
attribute [local go_sem ↓] Go.wp_at_zero Go.wp_at_succ
attribute [local go_sem] Oper.semAt_some
def nmF (i : Nat) : List UInt8 := [110, UInt8.ofNat (48 + i / 100), UInt8.ofNat (48 + i / 10 % 10), UInt8.ofNat (48 + i % 10)]
def fullT (k : Nat) : Nms := (List.range k).map nmF
theorem fullT_in0 : True := trivial
theorem fullT_in : ∀ i, i < 200 → internI (fullT i) (nmF i) = i ∧ internE (fullT i) (nmF i) = 0 ∧ internS (fullT i) (nmF i) = fullT (i + 1) := by decide +kernel
theorem fullT_more : internI (fullT 200) [109, 111, 114, 101] = 0 ∧ internE (fullT 200) [109, 111, 114, 101] = 66 ∧ internS (fullT 200) [109, 111, 114, 101] = fullT 200 ∧ findN (fullT 200) [109, 111, 114, 101] = none ∧ goodB [109, 111, 114, 101] = true := by decide +kernel
theorem fullT_7 : internI (fullT 200) [110, 48, 48, 55] = 7 ∧ internE (fullT 200) [110, 48, 48, 55] = 0 ∧ internS (fullT 200) [110, 48, 48, 55] = fullT 200 := by decide +kernel
theorem fullT_len : lenN (fullT 200) = 200 ∧ (fullT 200).length = 200 := by decide +kernel
theorem fullT_get {i : Nat} (h : i < 200) : (fullT 200).getD i [] ≠ [] := by
  unfold fullT
  rw [List.getD_eq_getElem?_getD, List.getElem?_map, List.getElem?_range h]
  simp [nmF]
theorem fullT_out (x : Int) (h : x < 0 ∨ 199 < x) : forgetE (fullT 200) x = 3 ∧ forgetS (fullT 200) x = fullT 200 := by
  have : nameN (fullT 200) x = [] := by
    unfold nameN
    by_cases h0 : x < 0
    · rw [if_pos h0]
    · rw [if_neg h0, List.getD_eq_getElem?_getD, List.getElem?_eq_none (by rw [fullT_len.2]; omega)]
      rfl
  exact ⟨by unfold forgetE; rw [if_pos this], by unfold forgetS; rw [if_pos this]⟩
theorem lowN_at {N : Nms} {k : Nat} (h1 : ∀ i, i < k → N.getD i [] ≠ []) (h2 : N.getD k [] = []) : lowN N = k := by
  have hle := lowN_free N
  rcases Nat.lt_trichotomy (lowN N) k with h | h | h
  · exact absurd hle (h1 _ h)
  · exact h
  · exact absurd h2 (lowN_used h)
/-- one is forgotten, 'more' is taken -/
theorem fullT_again {k : Nat} (hk : k < 200) (hok : NOk (fullT 200)) : forgetE (fullT 200) k = 0 ∧ forgetS (fullT 200) k = (fullT 200).set k [] ∧ internI ((fullT 200).set k []) [109, 111, 114, 101] = k ∧ internE ((fullT 200).set k []) [109, 111, 114, 101] = 0 ∧ lenN (internS ((fullT 200).set k []) [109, 111, 114, 101]) = 200 := by
  have hne := fullT_get hk
  have hn : nameN (fullT 200) (k : Int) = (fullT 200).getD k [] := by unfold nameN; rw [if_neg (by omega), Int.toNat_natCast]
  have hl := lenN_del hne
  rw [fullT_len.1] at hl
  have hf : findN ((fullT 200).set k []) [109, 111, 114, 101] = none := by
    rw [findN_del hok hne]
    split
    · rfl
    · exact fullT_more.2.2.2.1
  have hlow : lowN ((fullT 200).set k []) = k := lowN_at (fun i hi => by rw [free_get, if_neg (by omega)]; exact fullT_get (by omega)) (by rw [free_get, if_pos rfl])
  have hg := fullT_more.2.2.2.2
  refine ⟨by unfold forgetE; rw [hn, if_neg hne], by unfold forgetS; rw [hn, if_neg hne, Int.toNat_natCast], ?_, ?_, ?_⟩
  · unfold internI
    rw [if_neg (by rw [hg]; decide), hf]
    show (if 200 ≤ lenN ((fullT 200).set k []) then 0 else lowN ((fullT 200).set k [])) = k
    rw [if_neg (by omega), hlow]
  · unfold internE
    rw [if_neg (by rw [hg]; decide), hf, if_neg (by decide), if_neg (by omega)]
  · have : internS ((fullT 200).set k []) [109, 111, 114, 101] = setN ((fullT 200).set k []) (lowN ((fullT 200).set k [])) [109, 111, 114, 101] := by
      unfold internS
      rw [if_neg (by rw [hg]; decide), hf]
      exact if_neg (by omega)
    rw [this, lenN_set (by decide)]
    omega
theorem fr_pre {S : List Nat} {a b c : World} (h1 : Fr [] a b) (h2 : Fr S b c) : Fr S a c := (h1.mono (by simp)).trans h2
set_option maxRecDepth 100000 in
set_option maxHeartbeats 3200000 in
theorem tokensFull_walk (x : Int) (w : World) (hn : Nib w) : Calls Tryd.prog 5 #[.int .i64 x] w fun e w' => e = .returned (.bool true) ∧ Fr [] w w' := by
  have HS := Lib.hid (speaks11 w hn)
  clear hn
  go_enter Tryd.func5, Tryd.ntmps5
  go_wp2_with fail
  refine HS.out.mono ?_
  rintro e w0 ⟨rfl, hf⟩
  have HF0 := Lib.hid hf
  clear hf HS
  go_wp2_with fail
  refine (New_T 1 2 w0 (by decide) (.inr rfl)).mono ?_
  rintro e w1 ⟨t, bs, rfl, ht, hf⟩
  have HT1 : Hid (TB w0.heap.size bs w1 t 1 2 (fullT 0)) := Lib.hid ht
  have HF1 := Lib.hid (HF0.out.trans hf)
  clear ht hf
  go_wp2_with fail
  go_loopw [5] (fun i wr => ∃ (k : Nat) (bs : List Nat), k ≤ 200 ∧ i = .int .i64 k ∧ TB w0.heap.size bs wr t 1 2 (fullT k) ∧ Fr [] w wr) (fun i _ => 200 - (intOf i).toNat)
  case atStart => exact ⟨0, bs, by omega, rfl, HT1.out, HF1.out⟩
  case round =>
    obtain ⟨k, bk, hk, rfl, htb, hfr⟩ := hrel
    have HT := Lib.hid htb
    have HF := Lib.hid hfr
    clear htb hfr
    by_cases hlt : k < 200
    · have hki : (k : Int) < 200 := by omega
      have earr : (#[Value.int .u8 (48 + (k : Int) / 100), .int .u8 (48 + (k : Int) / 10 % 10), .int .u8 (48 + (k : Int) % 10)] : Array Value) = ([UInt8.ofNat (48 + k / 100), UInt8.ofNat (48 + k / 10 % 10), UInt8.ofNat (48 + k % 10)].map B8).toArray := by
        show _ = #[Value.int .u8 (I8 (UInt8.ofNat (48 + k / 100))), .int .u8 (I8 (UInt8.ofNat (48 + k / 10 % 10))), .int .u8 (I8 (UInt8.ofNat (48 + k % 10)))]
        rw [I8_of_nat _ (by omega), I8_of_nat _ (by omega), I8_of_nat _ (by omega)]
        simp
      obtain ⟨l3, hl3⟩ : ∃ l3, l3 = [UInt8.ofNat (48 + k / 100), UInt8.ofNat (48 + k / 10 % 10), UInt8.ofNat (48 + k % 10)] := ⟨_, rfl⟩
      have hll : l3.length = 3 := by rw [hl3]; rfl
      rw [← hl3] at earr
      have hcv := conv_any (some ⟨wr.heap.size, 0, none⟩) 3 l3 (wr.alloc (.cells #[Value.int .u8 (48 + (k : Int) / 100), .int .u8 (48 + (k : Int) / 10 % 10), .int .u8 (48 + (k : Int) % 10)] 5)) (fun h => by cases h) (Bytes.new _ rfl earr)
      rw [hll] at hcv
      have HL3 := Lib.hid hl3
      obtain ⟨S, hS⟩ : ∃ S, S = ByteArray.mk l3.toArray := ⟨_, rfl⟩
      rw [← hS] at hcv
      have hsz : S.size = 3 := by rw [hS, str_size, hll]
      clear hl3 hll
      have HSS := Lib.hid hS
      clear earr hS
      have hnm : (({ data := #[110] } : ByteArray) ++ S) = ByteArray.mk (nmF k).toArray := by
        rw [HSS.out, HL3.out]
        apply ByteArray.ext
        simp [nmF]
      have ek : IntKind.i64.wrap ((k : Int) + 1) = (k : Int) + 1 := IntWalk.i64_in _ (by omega)
      have HNMF := Lib.hid hnm
      have HI : Hid (∀ W bs, TB w0.heap.size bs W t 1 2 (fullT k) → Calls Tryd.prog 11 #[.pointer (some ⟨t, 0, none⟩), .string (({ data := #[110] } : ByteArray) ++ S)] W fun e w' => e = .returned (.tuple #[.int .i64 k, .int .i64 0]) ∧ ∃ bs', TB w0.heap.size bs' w' t 1 2 (fullT (k + 1)) ∧ Stp bs W bs' w') := Lib.hid fun W bs h => by
        rw [hnm]
        have h1 := Intern_T w0.heap.size bs W t 1 2 (fullT k) (nmF k) h (by simp [nmF])
        rw [(fullT_in k hlt).1, (fullT_in k hlt).2.1, (fullT_in k hlt).2.2] at h1
        exact h1
      have hkk : ((k : Int) != (k : Int)) = false := by simp
      clear hnm
      go_wp2_with fail
      have hfa : Fr [] wr (wr.alloc (.cells #[Value.int .u8 (48 + (k : Int) / 100), .int .u8 (48 + (k : Int) / 10 % 10), .int .u8 (48 + (k : Int) % 10)] 5)) := (Fr.refl _ _).alloc _
      refine (HI.out _ bk (HT.out.keep hfa)).mono ?_
      rintro e w3 ⟨rfl, bk3, h3, s3⟩
      have HT3 := Lib.hid h3
      have HF3 := Lib.hid (HT.out.clean HF0.out.size HF.out (fr_pre hfa s3.1))
      clear h3 s3 hfa
      go_wp2
      go_roundw
      case rel => exact ⟨k + 1, bk3, by omega, by go_num, HT3.out, HF3.out⟩
      case measure => simp [intOf] <;> omega
    · obtain rfl : k = 200 := by omega
      have HOK : Hid (NOk (fullT 200)) := Lib.hid (by obtain ⟨_, _, _, _, _, hh, -⟩ := HT.out; exact hh.ok)
      have HI1 := Lib.hid (Intern_T w0.heap.size bk wr t 1 2 (fullT 200) [109, 111, 114, 101] HT.out (by decide))
      rw [fullT_more.1, fullT_more.2.1, fullT_more.2.2.1] at HI1
      have HI2 : Hid (∀ W bs, TB w0.heap.size bs W t 1 2 (fullT 200) → Calls Tryd.prog 11 #[.pointer (some ⟨t, 0, none⟩), .string ⟨#[110, 48, 48, 55]⟩] W fun e w' => e = .returned (.tuple #[.int .i64 (7 : Nat), .int .i64 0]) ∧ ∃ bs', TB w0.heap.size bs' w' t 1 2 (fullT 200) ∧ Stp bs W bs' w') := Lib.hid fun W bs h => by
        have h1 := Intern_T w0.heap.size bs W t 1 2 (fullT 200) [110, 48, 48, 55] h (by decide)
        rw [fullT_7.1, fullT_7.2.1, fullT_7.2.2] at h1
        exact h1
      have HLE : Hid (∀ W bs, TB w0.heap.size bs W t 1 2 (fullT 200) → Calls Tryd.prog 13 #[.pointer (some ⟨t, 0, none⟩)] W fun e w' => e = .returned (.int .i64 200) ∧ W = w') := Lib.hid fun W bs h => by
        have h1 := Len_T w0.heap.size bs W t 1 2 (fullT 200) h
        rw [fullT_len.1] at h1
        exact h1
      have hlt2 := hlt
      clear hlt2
      go_wp2_with fail
      refine HI1.out.mono ?_
      rintro e w3 ⟨rfl, bk3, h3, s3⟩
      have HT3 := Lib.hid h3
      have HF3 := Lib.hid (HT.out.clean HF0.out.size HF.out s3.1)
      clear h3 s3 HI1
      go_wp2_with fail
      refine (HLE.out _ _ HT3.out).mono ?_
      rintro e w' ⟨rfl, rfl⟩
      go_wp2_with fail
      refine (HI2.out _ _ HT3.out).mono ?_
      rintro e w4 ⟨rfl, bk4, h4, s4⟩
      have HT4 := Lib.hid h4
      have HF4 := Lib.hid (HT3.out.clean HF0.out.size HF3.out s4.1)
      clear h4 s4 HI2 HT3 HF3
      have HFO := Lib.hid (Forget_T w0.heap.size bk4 w4 t 1 2 (fullT 200) x HT4.out)
      by_cases hx : x < 0 ∨ 199 < x
      · rw [(fullT_out x hx).1, (fullT_out x hx).2] at HFO
        go_wp2_with fail
        refine HFO.out.mono ?_
        rintro e w5 ⟨rfl, bk5, h5, s5⟩
        have HT5 := Lib.hid h5
        have HF5 := Lib.hid (HT4.out.clean HF0.out.size HF4.out s5.1)
        clear h5 s5 HFO
        by_cases hx0 : x < 0
        · go_wp2_with fail
          refine (HLE.out _ _ HT5.out).mono ?_
          rintro e w' ⟨rfl, rfl⟩
          go_wp2
          go_ret
          exact ⟨rfl, HF5.out⟩
        · have hx1 : 199 < x := by omega
          go_wp2_with fail
          refine (HLE.out _ _ HT5.out).mono ?_
          rintro e w' ⟨rfl, rfl⟩
          go_wp2
          go_ret
          exact ⟨rfl, HF5.out⟩
      · have hx0 : ¬ x < 0 := by omega
        have hx1 : ¬ 199 < x := by omega
        obtain ⟨k, rfl⟩ : ∃ k : Nat, x = k := ⟨x.toNat, by omega⟩
        have HAG := Lib.hid (fullT_again (k := k) (by omega) HOK.out)
        rw [HAG.out.1, HAG.out.2.1] at HFO
        have HI3 : Hid (∀ W bs, TB w0.heap.size bs W t 1 2 ((fullT 200).set k []) → Calls Tryd.prog 11 #[.pointer (some ⟨t, 0, none⟩), .string ⟨#[109, 111, 114, 101]⟩] W fun e w' => e = .returned (.tuple #[.int .i64 k, .int .i64 0]) ∧ ∃ bs', TB w0.heap.size bs' w' t 1 2 (internS ((fullT 200).set k []) [109, 111, 114, 101]) ∧ Stp bs W bs' w') := Lib.hid fun W bs h => by
          have h1 := Intern_T w0.heap.size bs W t 1 2 _ [109, 111, 114, 101] h (by decide)
          rw [HAG.out.2.2.1, HAG.out.2.2.2.1] at h1
          exact h1
        have HL5 : Hid (∀ W bs, TB w0.heap.size bs W t 1 2 (internS ((fullT 200).set k []) [109, 111, 114, 101]) → Calls Tryd.prog 13 #[.pointer (some ⟨t, 0, none⟩)] W fun e w' => e = .returned (.int .i64 200) ∧ W = w') := Lib.hid fun W bs h => by
          have h1 := Len_T w0.heap.size bs W t 1 2 _ h
          rw [HAG.out.2.2.2.2] at h1
          exact h1
        have hkk : ((k : Int) == (k : Int)) = true := by simp
        clear hx
        go_wp2_with fail
        refine HFO.out.mono ?_
        rintro e w5 ⟨rfl, bk5, h5, s5⟩
        have HT5 := Lib.hid h5
        have HF5 := Lib.hid (HT4.out.clean HF0.out.size HF4.out s5.1)
        clear h5 s5 HFO
        go_wp2_with fail
        refine (HI3.out _ _ HT5.out).mono ?_
        rintro e w6 ⟨rfl, bk6, h6, s6⟩
        have HT6 := Lib.hid h6
        have HF6 := Lib.hid (HT5.out.clean HF0.out.size HF5.out s6.1)
        clear h6 s6
        go_wp2_with fail
        refine (HL5.out _ _ HT6.out).mono ?_
        rintro e w' ⟨rfl, rfl⟩
        go_wp2
        go_ret
        exact ⟨rfl, HF6.out⟩
end Go.Proofs.YtlckhfjkdahfpaaDoor
