/- The document's record files: Open. -/
import Derived.Test.YtlckhfjkdahfpaaDoorMfE
import Derived.Test.YtlckhfjkdahfpaaDoorRfJ
namespace Go.Proofs.YtlckhfjkdahfpaaDoor
open Go.RowKit
attribute [local go_sem ↓] Go.wp_at_zero Go.wp_at_succ
/-- what the document's Open gives -/
def OpenG9 (w w' : World) (e : Ending) (b : List UInt8) : Prop :=
  (∃ E, openB b = .error E ∧ e = .returned (.tuple #[.pointer none, .int .i64 E]) ∧ Fr [] w w') ∨
  (∃ kd vr sz R p bs, openB b = .ok (kd, vr, sz, R) ∧ e = .returned (.tuple #[.pointer (some ⟨p, 0, none⟩), .int .i64 0]) ∧ MF w.heap.size bs w' p ⟨kd, vr, sz, 0, R⟩ ∧ Fr [] w w')
theorem box_set2 {w : World} {b T : Nat} {x y u v : Value} (h : w.heap[b]? = some (.cells #[x, y] T)) : ((w.setCell ⟨b, 0, none⟩ u).setCell ⟨b, 1, none⟩ v).heap[b]? = some (.cells #[u, v] T) := by
  have h1 : (w.setCell ⟨b, 0, none⟩ u).heap[b]? = some (.cells #[u, y] T) := by rw [heap_setCell_same w b 0 _ _ _ h]; rfl
  rw [heap_setCell_same _ b 1 _ _ _ h1]
  rfl
theorem U64_ne (a b : Nat) : (((a : Int) != (b : Int))) = (a != b) := by
  by_cases h : a = b
  · subst h; simp
  · rw [bne_iff_ne.2 h, bne_iff_ne]; omega
set_option maxRecDepth 100000 in
set_option maxHeartbeats 3200000 in
theorem Open9 (a : Option Addr) (c : Nat) (b : List UInt8) (w : World) (hl : b.length ≤ 140737488351300) (hc : b.length ≤ c) (hb : Bytes w a b) :
    Calls Tryd.prog 47 #[.slice a b.length c] w fun e w' => OpenG9 w w' e b := by
  have HB := Lib.hid hb
  have HC := Lib.hid hc
  by_cases h16 : b.length < 16
  · have HE : Hid (openB b = .error 10) := Lib.hid (by unfold openB; rw [if_pos h16])
    have hd : (b.length : Int) < 16 := by omega
    go_enter Tryd.func47, Tryd.ntmps47
    go_wp2
    go_ret2
    exact .inl ⟨10, HE.out, rfl, Fr.refl _ _⟩
  have hd : ¬ (b.length : Int) < 16 := by omega
  obtain ⟨ab, ao, rfl, hcs⟩ := hb.at (by omega)
  have h44 : (b.take 4).length = 4 := by rw [List.length_take]; omega
  have hk := conv_any (some ⟨ab, ao, none⟩) c (b.take 4) w (fun h => by cases h) (by have := hb.sub 0 4 (by omega); rwa [List.drop_zero] at this)
  rw [h44] at hk
  have hms := magic_str
  have hc4 : (4 : Int) ≤ (c : Int) := by omega
  have hc16 : (16 : Int) ≤ (c : Int) := by omega
  have hc12 : (12 : Int) ≤ (c : Int) := by omega
  have hc8 : (8 : Int) ≤ (c : Int) := by omega
  have n12 : ¬ c = 12 := by omega
  have n6 : ¬ c = 6 := by omega
  have n8 : ¬ c = 8 := by omega
  have HVAL : Hid (∀ (q n : Nat) (W : World), Fr [] w W → q + n ≤ 16 → n ≤ 4 → Calls Tryd.prog 67 #[.slice (some ⟨ab, ao + q, none⟩) n (c - q)] W fun e w' => e = .returned (.int .u64 ((hN b q n : Nat) : Int)) ∧ W = w') := Lib.hid fun q n W hW hq hn => by
    have hb := (HB.out.keep hW).sub q n (by omega)
    have hlen : ((b.drop q).take n).length = n := by rw [List.length_take, List.length_drop]; omega
    have h := val_any (some ⟨ab, ao + q, none⟩) (c - q) ((b.drop q).take n) W (by omega) hb
    have h1 : hN b q n < 256 ^ 4 := Nat.lt_of_lt_of_le (hN_lt b q n) (Nat.pow_le_pow_right (by omega) hn)
    have h5 : (256 : Nat) ^ 4 = 4294967296 := by decide
    have he : U (be ((b.drop q).take n)) = ((hN b q n : Nat) : Int) := U_lt _ (by unfold hN at h1; omega)
    rw [hlen, he] at h
    exact h
  have HSM : Hid (∀ W, Fr [] w W → Calls Tryd.prog 66 #[.slice (some ⟨ab, ao, none⟩) 12 c] W fun e w' => e = .returned (.int .u32 (I32 (sm (b.take 12)))) ∧ W = w') := Lib.hid fun W hW => by
    have hb12 := (HB.out.keep hW).sub 0 12 (by omega)
    rw [List.drop_zero, Nat.add_zero] at hb12
    exact refsum_any (some ⟨ab, ao, none⟩) 12 c (b.take 12) W (by rw [List.length_take]; omega) (by omega) hb12
  have H16 := Lib.hid h16
  have HOE := Lib.hid (hdE_open h16)
  have HOK := Lib.hid (hdE_ok h16)
  have HCS := Lib.hid hcs
  clear hb hc hcs h16 h44
  cases hm : (b.take 4 == magicB) with
  | false =>
    have hE : hdE b = 90 := by unfold hdE; rw [if_pos hm]
    have HE : Hid (openB b = .error 90) := Lib.hid (by rw [HOE.out (by rw [hE]; decide), hE])
    clear hE
    go_enter Tryd.func47, Tryd.ntmps47
    go_wp2
    go_ret2
    exact .inl ⟨90, HE.out, rfl, Fr.refl _ _⟩
  | true =>
    have HED : Hid (hdE b = if (BitVec.ofNat 32 (hN b 12 4) == sm (b.take 12)) = false then 91 else if hN b 6 2 < 2 ∨ 255 < hN b 6 2 then 4 else if 65536 < hN b 8 4 ∨ b.length ≠ 16 + hN b 8 4 * hN b 6 2 then 92 else 0) := Lib.hid (by unfold hdE; rw [if_neg (by rw [hm]; simp)])
    go_enter Tryd.func47, Tryd.ntmps47
    go_upto_region 5 with fail
    clear hk hms hm
    have hk12 : hN b 12 4 ≤ 4294967295 := by have := hN_lt b 12 4; have h5 : (256 : Nat) ^ 4 = 4294967296 := by decide
                                             omega
    have hne : (((hN b 12 4 : Nat) : Int) != I32 (sm (b.take 12))) = (BitVec.ofNat 32 (hN b 12 4) != sm (b.take 12)) := by rw [← I32_ofNat _ hk12, I32_ne]
    have q3 := wrapU_I32 (sm (b.take 12))
    have HV12 : Hid (∀ W, Fr [] w W → Calls Tryd.prog 67 #[.slice (some ⟨ab, ao + 12, none⟩) 4 (c - 12)] W fun e w' => e = .returned (.int .u64 ((hN b 12 4 : Nat) : Int)) ∧ W = w') := Lib.hid fun W hW => HVAL.out 12 4 W hW (by omega) (by omega)
    go_quiet (first | (go_at_call 67; exact Calls.quiet_of_same ((HV12.out _ ((Fr.refl [] w).drewN _)).mono fun _ _ h => ⟨h.1, h.2.symm⟩)) | (go_at_call 66; exact Calls.quiet_of_same ((HSM.out _ ((Fr.refl [] w).drewN _)).mono fun _ _ h => ⟨h.1, h.2.symm⟩)))
    obtain ⟨W, hW⟩ : ∃ W, W = w.drewN nq := ⟨_, rfl⟩
    rw [← hW]
    have HFW := Lib.hid (show Fr [] w W by rw [hW]; exact (Fr.refl [] w).drewN nq)
    clear hW hne q3 HV12
    generalize hbb : (BitVec.ofNat 32 (hN b 12 4) != sm (b.take 12)) = bb
    cases bb with
    | true =>
      have hs : (BitVec.ofNat 32 (hN b 12 4) == sm (b.take 12)) = false := by unfold bne at hbb; simpa using hbb
      have hE : hdE b = 91 := by rw [HED.out, if_pos hs]
      have HE : Hid (openB b = .error 91) := Lib.hid (by rw [HOE.out (by rw [hE]; decide), hE])
      clear hbb hs hE
      go_wp2
      go_ret2
      exact .inl ⟨91, HE.out, rfl, HFW.out⟩
    | false =>
      have hs : (BitVec.ofNat 32 (hN b 12 4) == sm (b.take 12)) = true := by unfold bne at hbb; simpa using hbb
      have HE2 : Hid (hdE b = if hN b 6 2 < 2 ∨ 255 < hN b 6 2 then 4 else if 65536 < hN b 8 4 ∨ b.length ≠ 16 + hN b 8 4 * hN b 6 2 then 92 else 0) := Lib.hid (by rw [HED.out, if_neg (by rw [hs]; simp)])
      clear hbb hs HED
      obtain ⟨S, hS⟩ : ∃ S, S = hN b 6 2 := ⟨_, rfl⟩
      obtain ⟨M, hM⟩ : ∃ M, M = hN b 8 4 := ⟨_, rfl⟩
      obtain ⟨kd, hkd⟩ : ∃ kd, kd = hN b 4 1 := ⟨_, rfl⟩
      obtain ⟨vr, hvr⟩ : ∃ vr, vr = hN b 5 1 := ⟨_, rfl⟩
      have hSb : S ≤ 65535 := by rw [hS]; have := hN_lt b 6 2; have h5 : (256 : Nat) ^ 2 = 65536 := by decide
                                 omega
      have hMb : M ≤ 4294967295 := by rw [hM]; have := hN_lt b 8 4; have h5 : (256 : Nat) ^ 4 = 4294967296 := by decide
                                      omega
      have hkb : kd ≤ 255 := by rw [hkd]; have := hN_lt b 4 1; omega
      have hvb : vr ≤ 255 := by rw [hvr]; have := hN_lt b 5 1; omega
      rw [← hS, ← hM] at HE2
      rw [← hS, ← hM, ← hkd, ← hvr] at HOK
      have hone : ∀ p, p < 16 → ((hN b p 1 : Nat) : Int) = I8 (b.getD p 0) := fun p hp => by
        have e : (b.drop p).take 1 = [b.getD p 0] := by
          have hlt : p < b.length := by have := H16.out; omega
          rw [List.drop_eq_getElem_cons hlt, List.take_succ_cons, List.take_zero]
          simp [List.getD, hlt]
        unfold hN
        rw [e]
        simp [be, I8]
      have x4 : W.cell? ⟨ab, ao + 4, none⟩ = some (.int .u8 (kd : Int)) := by
        have h := HFW.out.cell (HCS.out 4 (by have := H16.out; omega)) (by simp)
        rw [h, hkd, hone 4 (by omega)]
        rfl
      have x5 : W.cell? ⟨ab, ao + 5, none⟩ = some (.int .u8 (vr : Int)) := by
        have h := HFW.out.cell (HCS.out 5 (by have := H16.out; omega)) (by simp)
        rw [h, hvr, hone 5 (by omega)]
        rfl
      have HV6 : Hid (∀ W', Fr [] W W' → Calls Tryd.prog 67 #[.slice (some ⟨ab, ao + 6, none⟩) 2 (c - 6)] W' fun e w' => e = .returned (.int .u64 (S : Int)) ∧ W' = w') := Lib.hid fun W' hW => by rw [hS]; exact HVAL.out 6 2 W' (HFW.out.trans hW) (by omega) (by omega)
      have HV8 : Hid (∀ W', Fr [] W W' → Calls Tryd.prog 67 #[.slice (some ⟨ab, ao + 8, none⟩) 4 (c - 8)] W' fun e w' => e = .returned (.int .u64 (M : Int)) ∧ W' = w') := Lib.hid fun W' hW => by rw [hM]; exact HVAL.out 8 4 W' (HFW.out.trans hW) (by omega) (by omega)
      clear hone hS hM hkd hvr HVAL HSM
      have i4 : (4 : Int) < (b.length : Int) := by have := H16.out; omega
      have i5 : (5 : Int) < (b.length : Int) := by have := H16.out; omega
      have j4 : 4 < b.length := by have := H16.out; omega
      have j5 : 5 < b.length := by have := H16.out; omega
      have w4 : IntKind.i64.wrap (kd : Int) = (kd : Int) := IntWalk.i64_in _ (by omega)
      have w5 : IntKind.i64.wrap (vr : Int) = (vr : Int) := IntWalk.i64_in _ (by omega)
      have w6 : IntKind.i64.wrap (S : Int) = (S : Int) := IntWalk.i64_in _ (by omega)
      go_upto_region 7 with fail
      go_region_held3 (fun w' => w'.cell? ⟨ab, ao + 4, none⟩ = some (.int .u8 (kd : Int)) ∧ w'.cell? ⟨ab, ao + 5, none⟩ = some (.int .u8 (vr : Int)))
        (first
          | with_reducible assumption
          | exact ⟨x4, x5⟩
          | exact ⟨((Fr.refl [] _).alloc _).cell x4 (by simp), ((Fr.refl [] _).alloc _).cell x5 (by simp)⟩)
        (first
          | (go_at_call 67; (with_reducible refine (HV6.out _ ((Fr.refl [] W).drew)).mono ?_); rintro e wA ⟨rfl, rfl⟩))
      clear x4 x5 w4 w5 w6 i4 i5 j4 j5 HV6
      obtain ⟨F, hF⟩ : ∃ F, F = W.heap.size := ⟨_, rfl⟩
      generalize hW3 : World.drew _ = W3
      rw [← hF]
      have hf3 : Fr [] W W3 := by rw [← hW3]; exact ((Fr.refl _ _).alloc _).drew
      have ho3 : W3.heap[F]? = some (.cells #[.int .i64 (kd : Int), .int .i64 (vr : Int), .int .i64 (S : Int), .slice none 0 0] 84) := by rw [← hW3, hF]; exact heap_alloc_new W _
      have HF3 := Lib.hid hf3
      have HO3 := Lib.hid ho3
      have HFS := Lib.hid hF
      obtain ⟨x0, x1, x2, x3⟩ := four ho3
      clear hW3 hF hf3 ho3 x0 x1 x3
      by_cases s2 : S < 2
      · have hE : hdE b = 4 := by rw [HE2.out, if_pos (.inl s2)]
        have HE : Hid (openB b = .error 4) := Lib.hid (by rw [HOE.out (by rw [hE]; decide), hE])
        have s2i : decide ((S : Int) < 2) = true := decide_eq_true (by omega)
        clear hE
        go_wp2
        go_ret2
        exact .inl ⟨4, HE.out, rfl, HFW.out.trans HF3.out⟩
      have s2i : decide ((S : Int) < 2) = false := decide_eq_false (by omega)
      by_cases s5 : 255 < S
      · have hE : hdE b = 4 := by rw [HE2.out, if_pos (.inr s5)]
        have HE : Hid (openB b = .error 4) := Lib.hid (by rw [HOE.out (by rw [hE]; decide), hE])
        have s5i : decide ((255 : Int) < (S : Int)) = true := decide_eq_true (by omega)
        clear hE
        go_wp2
        go_ret2
        exact .inl ⟨4, HE.out, rfl, HFW.out.trans HF3.out⟩
      have s5i : decide ((255 : Int) < (S : Int)) = false := decide_eq_false (by omega)
      have HE3 : Hid (hdE b = if 65536 < M ∨ b.length ≠ 16 + M * S then 92 else 0) := Lib.hid (by rw [HE2.out, if_neg (by omega)])
      have w8 : IntKind.i64.wrap (M : Int) = (M : Int) := IntWalk.i64_in _ (by omega)
      clear HE2
      go_wp2_with fail
      refine (HV8.out _ HF3.out).mono ?_
      rintro e W4 ⟨rfl, rfl⟩
      by_cases m6 : 65536 < M
      · have hE : hdE b = 92 := by rw [HE3.out, if_pos (.inl m6)]
        have HE : Hid (openB b = .error 92) := Lib.hid (by rw [HOE.out (by rw [hE]; decide), hE])
        have m6i : decide ((65536 : Int) < (M : Int)) = true := decide_eq_true (by omega)
        clear hE
        go_wp2
        go_ret2
        exact .inl ⟨92, HE.out, rfl, HFW.out.trans HF3.out⟩
      have m6i : decide ((65536 : Int) < (M : Int)) = false := decide_eq_false (by omega)
      obtain ⟨N, hN2⟩ : ∃ N, N = M * S := ⟨_, rfl⟩
      have hNb : N ≤ 65536 * 255 := by rw [hN2]; exact Nat.mul_le_mul (by omega) (by omega)
      have hNi : (M : Int) * (S : Int) = (N : Int) := by rw [hN2]; exact (Int.natCast_mul M S).symm
      have hNw : IntKind.i64.wrap (N : Int) = (N : Int) := IntWalk.i64_in _ (by omega)
      have hlw : IntKind.i64.wrap ((b.length : Int) - 16) = ((b.length : Int) - 16) := IntWalk.i64_in _ (by omega)
      rw [← hN2] at HE3
      rw [← hN2] at HOK
      have HN2 := Lib.hid hN2
      clear hN2 HV8
      by_cases m7 : b.length = 16 + N
      · have m7i : (((N : Int)) != (b.length : Int) - 16) = false := by rw [bne_eq_false_iff_eq]; have := H16.out; omega
        obtain ⟨o1, -⟩ := HOK.out (by rw [HE3.out, if_neg (by omega)])
        have HOP := Lib.hid o1
        clear o1 HE3 HOK
        have HM7 := Lib.hid m7
        obtain ⟨bod, hbod⟩ : ∃ bod, bod = b.drop 16 := ⟨_, rfl⟩
        rw [← hbod] at HOP
        have HBL : Hid (bod.length = M * S) := Lib.hid (by rw [hbod, List.length_drop, m7, HN2.out]; omega)
        have HBOD := Lib.hid hbod
        have HMFH : Hid (MFH W3 w.heap.size F (.slice none 0 0) [] ⟨kd, vr, S, 0, []⟩) := Lib.hid ⟨HO3.out, ML.nil _ _, rfl, ⟨hkb, hvb, by show 2 ≤ S; omega, by show S ≤ 255; omega, by simp, Sized.nil _, fun i h => absurd h (by simp)⟩, by rw [HFS.out]; exact HFW.out.size⟩
        have HFW3 := Lib.hid (HFW.out.trans HF3.out)
        have HWF : Hid (w.heap.size ≤ F) := Lib.hid (by rw [HFS.out]; exact HFW.out.size)
        have HSS : Hid (2 ≤ S ∧ S ≤ 255 ∧ M ≤ 65536) := Lib.hid ⟨by omega, by omega, by omega⟩
        clear m7 hbod
        go_upto_region 14 with fail
        clear hNi hNw hlw w8 m6i s5i s2i hNb x2 hSb hMb hkb hvb hk12 hd hc4 hc16 hc12 hc8 n12 n6 n8 m7i s2 s5 m6 HFS
        go_loopw [6, 7, 8, 9] (fun i _ _ _ wr => ∃ (k : Nat) (v : Value) (X : List RI) (T : Recs), k ≤ M ∧ i = .int .i64 k ∧ MFH wr w.heap.size F v X ⟨kd, vr, S, 0, T⟩ ∧ T.length = k ∧ readR S M bod = preR T (readR S (M - k) (bod.drop (k * S))) ∧ Fr [] w wr) (fun i _ _ _ _ => M - (intOf i).toNat)
        case atStart => exact ⟨0, _, [], [], by omega, rfl, HMFH.out, rfl, by rw [preR_nil]; simp, HFW3.out⟩
        case round =>
          obtain ⟨k, v, X, T, hk, rfl, hmf, hTl, hrd, hfr⟩ := hrel
          obtain ⟨va, vc, rfl, -⟩ := hmf.recs.sl
          obtain ⟨x0, x1, x2, x3⟩ := four hmf.obj
          replace x2 : wr.cell? ⟨F, 2, none⟩ = some (.int .i64 (S : Int)) := x2
          have hXl := hmf.len
          have HG := Lib.hid hmf
          have HFR := Lib.hid hfr
          have HTL := Lib.hid hTl
          have HXL : Hid (X.length = k) := Lib.hid (by rw [hXl]; exact hTl)
          have hM65 : M ≤ 65536 := HSS.out.2.2
          clear hmf hfr hTl hXl x0 x1
          by_cases hlt : k < M
          · have hki : (k : Int) < (M : Int) := by omega
            obtain ⟨P, hP⟩ : ∃ P, P = k * S := ⟨_, rfl⟩
            have hPi : (k : Int) * (S : Int) = (P : Int) := by rw [hP]; exact (Int.natCast_mul k S).symm
            have hPS : P + S ≤ bod.length := by
              have h := Nat.mul_le_mul_right S (show k + 1 ≤ M by omega)
              rw [Nat.add_mul, Nat.one_mul] at h
              have := HBL.out
              omega
            have hbl : bod.length + 16 = b.length := by rw [HBOD.out, List.length_drop]; have := H16.out; omega
            have hPb : P ≤ 16711680 := by rw [hP]; exact Nat.mul_le_mul (show k ≤ 65536 by have := HSS.out; omega) HSS.out.2.1
            have hSb : 2 ≤ S ∧ S ≤ 255 := ⟨HSS.out.1, HSS.out.2.1⟩
            have hPw : IntKind.i64.wrap (P : Int) = (P : Int) := IntWalk.i64_in _ (by omega)
            have hPw2 : IntKind.i64.wrap (16 + (P : Int)) = ((16 + P : Nat) : Int) := by rw [IntWalk.i64_in _ (by omega)]; omega
            obtain ⟨Q, hQ⟩ : ∃ Q, Q = 16 + P := ⟨_, rfl⟩
            rw [← hQ] at hPw2
            have hQl : (Q : Int) < (b.length : Int) := by omega
            have hQn : Q < b.length := by omega
            have hQ0 : (0 : Int) ≤ (Q : Int) := by omega
            obtain ⟨r, hr⟩ : ∃ r, r = (bod.drop P).take S := ⟨_, rfl⟩
            have hrl : r.length = S := by rw [hr, List.length_take, List.length_drop]; omega
            obtain ⟨x, hx⟩ : ∃ x, x = b.getD Q 0 := ⟨_, rfl⟩
            have hxr : x = r.getD 0 0 := by
              rw [hx, hr, HBOD.out, hQ]
              simp only [List.getD_eq_getElem?_getD, List.getElem?_take_of_lt (show 0 < S by omega), List.getElem?_drop, Nat.add_zero]
            have xb : wr.cell? ⟨ab, ao + Q, none⟩ = some (.int .u8 (I8 x)) := by rw [hx]; exact HFR.out.cell (HCS.out Q hQn) (by simp)
            have hst := readR_at hrd hlt
            rw [← hP, ← hr] at hst
            have HST := Lib.hid hst
            have HRL := Lib.hid hrl
            have HX := Lib.hid hxr
            have HP := Lib.hid hP
            have HPS : Hid (Q + S ≤ b.length) := Lib.hid (by omega)
            have HRB : Hid (∀ W', Fr [] wr W' → Bytes W' (some ⟨ab, ao + (Q + 1), none⟩) (r.drop 1)) := Lib.hid fun W' hW => by
              have h := ((HB.out.keep (HFR.out.trans hW))).sub (Q + 1) (S - 1) (by omega)
              have e : r.drop 1 = (b.drop (Q + 1)).take (S - 1) := by
                rw [hr, HBOD.out, List.drop_drop, List.drop_take, List.drop_drop, hQ]
              rw [e]
              exact h
            clear hrd hP hr hrl hx hxr hst hPS hbl hQ hPb
            by_cases hx1 : 1 < x.toNat
            · have hg1 : decide ((1 : Int) < I8 x) = true := decide_eq_true (by unfold I8; omega)
              have HE : Hid (openB b = .error 93) := Lib.hid (by
                rw [HOP.out]
                refine fileOf_err ?_
                rw [HST.out]
                unfold oneR
                rw [← HX.out, if_pos hx1]
                rfl)
              clear hx1
              go_wp2
              go_ret2
              exact .inl ⟨93, HE.out, rfl, HFR.out⟩
            · by_cases hx0 : x.toNat = 1
              · have hI : I8 x = 1 := by unfold I8; omega
                rw [hI] at xb
                obtain ⟨d, hd⟩ : ∃ d, d = r.drop 1 := ⟨_, rfl⟩
                have hdl : d.length + 1 = S := by rw [hd, List.length_drop]; have := HRL.out; omega
                have HDL := Lib.hid hdl
                have HDL2 : Hid (d.length = S - 1) := Lib.hid (by omega)
                rw [← hd] at HRB
                have HD := Lib.hid hd
                have e1 : IntKind.i64.wrap ((Q : Int) + 1) = (Q : Int) + 1 := IntWalk.i64_in _ (by omega)
                have e2 : IntKind.i64.wrap ((Q : Int) + (S : Int)) = (Q : Int) + (S : Int) := IntWalk.i64_in _ (by omega)
                have t1 : ((Q : Int) + 1).toNat = Q + 1 := by omega
                have t2 : ((Q : Int) + (S : Int)).toNat - (Q + 1) = d.length := by omega
                have t3 : (0 : Int) ≤ (Q : Int) + 1 := by omega
                have t4 : (0 : Int) ≤ (Q : Int) + (S : Int) := by omega
                have t5 : (Q : Int) + 1 ≤ (Q : Int) + (S : Int) := by omega
                have t6 : (Q : Int) + (S : Int) ≤ (c : Int) := by have := HPS.out; have := HC.out; omega
                have t7 : max ((Q : Int) + (S : Int)) 0 = (Q : Int) + (S : Int) := by omega
                have t8 : ¬ c = Q + 1 := by have := HPS.out; have := HC.out; omega
                clear hd hdl hI
                go_upto_region 19 with fail
                go_cut [8] (fun y wx => ∃ (bx g cap : Nat), y = .pointer (some ⟨bx, 0, none⟩) ∧ wx.heap[bx]? = some (.cells #[.bool true, .slice (some ⟨g, 0, none⟩) d.length cap] 86) ∧ wr.heap.size ≤ bx ∧ wr.heap.size ≤ g ∧ wx.ownsRow wr.heap.size 5 1 (.slice (some ⟨g, 0, none⟩) d.length cap) d.length (d.map B8) ∧ Fr [] wr wx)
                case first =>
                  refine region_late (fun w' => w'.cell? ⟨ab, ao + Q, none⟩ = some (.int .u8 1) ∧ w'.cell? ⟨F, 2, none⟩ = some (.int .i64 (S : Int))) [18] (by kernel_rfl) (by exact ⟨xb, x2⟩) (fun hHd0 => ?_)
                  refine wpAnyL_pure (i := 0) (v := ?_) rfl (by kernel_rfl) (by kernel_rfl) (by kernel_rfl) (by kernel_rfl) (by kernel_rfl) (fun _ _ _ h => h) (Or.inl ⟨by rfl, ?_⟩) (fun _ => hHd0) ?_
                  rotate_left
                  · (intro w _; go_simp; (try with_reducible rfl))
                  try simp only [Act.put, List.setIfInBounds_toArray, List.set_cons_zero, List.set_cons_succ, List.getElem_toArray, List.getElem_cons_zero, List.getElem_cons_succ]
                  refine wpAnyL_pure (i := 1) (v := ?_) rfl (by kernel_rfl) (by kernel_rfl) (by kernel_rfl) (by kernel_rfl) (by kernel_rfl) (fun _ _ _ h => h) (Or.inl ⟨by rfl, ?_⟩) (fun _ => hHd0) ?_
                  rotate_left
                  · (intro w _; go_simp; (try with_reducible rfl))
                  try simp only [Act.put, List.setIfInBounds_toArray, List.set_cons_zero, List.set_cons_succ, List.getElem_toArray, List.getElem_cons_zero, List.getElem_cons_succ]
                  refine wpAnyL_take (i := 2) (v := ?_) rfl (by kernel_rfl) (by kernel_rfl) (by kernel_rfl) (by kernel_rfl) (by kernel_rfl) (fun _ _ _ h => h) (Or.inl ⟨by rfl, ?_⟩) hHd0 ?_
                  rotate_left
                  · (intro w hSw; (try dsimp only at hSw); go_simp; (try with_reducible rfl))
                  try simp only [Act.put, List.setIfInBounds_toArray, List.set_cons_zero, List.set_cons_succ, List.getElem_toArray, List.getElem_cons_zero, List.getElem_cons_succ]
                  refine wpAnyL_take (i := 3) (v := ?_) rfl (by kernel_rfl) (by kernel_rfl) (by kernel_rfl) (by kernel_rfl) (by kernel_rfl) (fun _ _ _ h => h) (Or.inl ⟨by rfl, ?_⟩) hHd0 ?_
                  rotate_left
                  · (intro w hSw; (try dsimp only at hSw); go_simp; (try with_reducible rfl))
                  try simp only [Act.put, List.setIfInBounds_toArray, List.set_cons_zero, List.set_cons_succ, List.getElem_toArray, List.getElem_cons_zero, List.getElem_cons_succ]
                  refine wpAnyL_take (i := 4) (v := ?_) rfl (by kernel_rfl) (by kernel_rfl) (by kernel_rfl) (by kernel_rfl) (by kernel_rfl) (fun _ _ _ h => h) (Or.inl ⟨by rfl, ?_⟩) hHd0 ?_
                  rotate_left
                  · (intro w hSw; (try dsimp only at hSw); go_simp; (try with_reducible rfl))
                  try simp only [Act.put, List.setIfInBounds_toArray, List.set_cons_zero, List.set_cons_succ, List.getElem_toArray, List.getElem_cons_zero, List.getElem_cons_succ]
                  refine wpAnyL_pure (i := 5) (v := ?_) rfl (by kernel_rfl) (by kernel_rfl) (by kernel_rfl) (by kernel_rfl) (by kernel_rfl) (fun _ _ _ h => h) (Or.inl ⟨by rfl, ?_⟩) (fun _ => hHd0) ?_
                  rotate_left
                  · (intro w _; go_simp; (try with_reducible rfl))
                  try simp only [Act.put, List.setIfInBounds_toArray, List.set_cons_zero, List.set_cons_succ, List.getElem_toArray, List.getElem_cons_zero, List.getElem_cons_succ]
                  refine wpAnyL_pure (i := 6) (v := ?_) rfl (by kernel_rfl) (by kernel_rfl) (by kernel_rfl) (by kernel_rfl) (by kernel_rfl) (fun _ _ _ h => h) (Or.inl ⟨by rfl, ?_⟩) (fun _ => hHd0) ?_
                  rotate_left
                  · (intro w _; go_simp; (try with_reducible rfl))
                  try simp only [Act.put, List.setIfInBounds_toArray, List.set_cons_zero, List.set_cons_succ, List.getElem_toArray, List.getElem_cons_zero, List.getElem_cons_succ]
                  refine wpAnyL_take (i := 7) (v := ?_) rfl (by kernel_rfl) (by kernel_rfl) (by kernel_rfl) (by kernel_rfl) (by kernel_rfl) (fun _ _ _ h => h) (Or.inl ⟨by rfl, ?_⟩) hHd0 ?_
                  rotate_left
                  · (intro w hSw; (try dsimp only at hSw); go_simp; (try with_reducible rfl))
                  try simp only [Act.put, List.setIfInBounds_toArray, List.set_cons_zero, List.set_cons_succ, List.getElem_toArray, List.getElem_cons_zero, List.getElem_cons_succ]
                  refine wpAnyL_pure (i := 8) (v := ?_) rfl (by kernel_rfl) (by kernel_rfl) (by kernel_rfl) (by kernel_rfl) (by kernel_rfl) (fun _ _ _ h => h) (Or.inl ⟨by rfl, ?_⟩) (fun _ => hHd0) ?_
                  rotate_left
                  · (intro w _; go_simp; (try with_reducible rfl))
                  try simp only [Act.put, List.setIfInBounds_toArray, List.set_cons_zero, List.set_cons_succ, List.getElem_toArray, List.getElem_cons_zero, List.getElem_cons_succ]
                  refine wpAnyL_pure (i := 9) (v := ?_) rfl (by kernel_rfl) (by kernel_rfl) (by kernel_rfl) (by kernel_rfl) (by kernel_rfl) (fun _ _ _ h => h) (Or.inl ⟨by rfl, ?_⟩) (fun _ => hHd0) ?_
                  rotate_left
                  · (intro w _; go_simp; (try with_reducible rfl))
                  try simp only [Act.put, List.setIfInBounds_toArray, List.set_cons_zero, List.set_cons_succ, List.getElem_toArray, List.getElem_cons_zero, List.getElem_cons_succ]
                  refine wpAnyL_pure (i := 10) (v := ?_) rfl (by kernel_rfl) (by kernel_rfl) (by kernel_rfl) (by kernel_rfl) (by kernel_rfl) (fun _ _ _ h => h) (Or.inl ⟨by rfl, ?_⟩) (fun _ => hHd0) ?_
                  rotate_left
                  · (intro w _; go_simp; (try with_reducible rfl))
                  try simp only [Act.put, List.setIfInBounds_toArray, List.set_cons_zero, List.set_cons_succ, List.getElem_toArray, List.getElem_cons_zero, List.getElem_cons_succ]
                  refine wpAnyL_pure (i := 11) (v := ?_) rfl (by kernel_rfl) (by kernel_rfl) (by kernel_rfl) (by kernel_rfl) (by kernel_rfl) (fun _ _ _ h => h) (Or.inl ⟨by rfl, ?_⟩) (fun _ => hHd0) ?_
                  rotate_left
                  · (intro w _; go_simp; (try with_reducible rfl))
                  try simp only [Act.put, List.setIfInBounds_toArray, List.set_cons_zero, List.set_cons_succ, List.getElem_toArray, List.getElem_cons_zero, List.getElem_cons_succ]
                  refine wpAnyL_take (i := 12) (v := ?_) rfl (by kernel_rfl) (by kernel_rfl) (by kernel_rfl) (by kernel_rfl) (by kernel_rfl) (fun _ _ _ h => h) (Or.inl ⟨by rfl, ?_⟩) hHd0 ?_
                  rotate_left
                  · (intro w hSw; (try dsimp only at hSw); go_simp; (try with_reducible rfl))
                  try simp only [Act.put, List.setIfInBounds_toArray, List.set_cons_zero, List.set_cons_succ, List.getElem_toArray, List.getElem_cons_zero, List.getElem_cons_succ]
                  refine wpAnyL_take (i := 13) (v := ?_) rfl (by kernel_rfl) (by kernel_rfl) (by kernel_rfl) (by kernel_rfl) (by kernel_rfl) (fun _ _ _ h => h) (Or.inl ⟨by rfl, ?_⟩) hHd0 ?_
                  rotate_left
                  · (intro w hSw; (try dsimp only at hSw); go_simp; (try with_reducible rfl))
                  try simp only [Act.put, List.setIfInBounds_toArray, List.set_cons_zero, List.set_cons_succ, List.getElem_toArray, List.getElem_cons_zero, List.getElem_cons_succ]
                  refine wpAnyL_take (i := 14) (v := ?_) rfl (by kernel_rfl) (by kernel_rfl) (by kernel_rfl) (by kernel_rfl) (by kernel_rfl) (fun _ _ _ h => h) (Or.inl ⟨by rfl, ?_⟩) hHd0 ?_
                  rotate_left
                  · (intro w hSw; (try dsimp only at hSw); go_simp; (try with_reducible rfl))
                  try simp only [Act.put, List.setIfInBounds_toArray, List.set_cons_zero, List.set_cons_succ, List.getElem_toArray, List.getElem_cons_zero, List.getElem_cons_succ]
                  refine wpAnyL_ready (rs := [15, 17]) (by kernel_rfl) (by simp) ?_
                  refine (AllReadyL.cons rfl (fun K hK => ?_) (AllReadyL.cons rfl (fun K hK => ?_) AllReadyL.nil))
                  · go_simp
                    refine (copy_any (some ⟨ab, ao + (Q + 1), none⟩) (c - (Q + 1)) d wr.drew (by have := HDL2.out; omega) (HRB.out _ ((Fr.refl [] wr).drew))).mono ?_
                    rintro e w5 ⟨cv, rfl, hcv⟩
                    obtain ⟨gd, gc, rfl, hgd, hgl, hco, hcf⟩ := hcv
                    have HCO := Lib.hid hco
                    have HCF := Lib.hid (((Fr.refl [] wr).drew).trans hcf)
                    have HGD := Lib.hid hgd
                    have HGL := Lib.hid hgl
                    clear hco hcf hgd hgl
                    go_simp
                    refine hK.out _ _ (by exact ⟨HCF.out.cell xb (by simp), HCF.out.cell x2 (by simp)⟩) (fun hHd1 => ?_)
                    clear hK K hHd0
                    try simp only [Act.put, List.setIfInBounds_toArray, List.set_cons_zero, List.set_cons_succ, List.getElem_toArray, List.getElem_cons_zero, List.getElem_cons_succ]
                    refine wpAnyL_take (i := 16) (v := ?_) rfl (by kernel_rfl) (by kernel_rfl) (by kernel_rfl) (by kernel_rfl) (by kernel_rfl) (fun _ _ _ h => h) (Or.inl ⟨by rfl, ?_⟩) hHd1 ?_
                    rotate_left
                    · (intro w hSw; (try dsimp only at hSw); go_simp; (try with_reducible rfl))
                    try simp only [Act.put, List.setIfInBounds_toArray, List.set_cons_zero, List.set_cons_succ, List.getElem_toArray, List.getElem_cons_zero, List.getElem_cons_succ]
                    refine wpAnyL_ready (rs := [17]) (by kernel_rfl) (by simp) ?_
                    refine (AllReadyL.cons rfl (fun K hK => ?_) AllReadyL.nil)
                    go_simp
                    refine hK.out _ _ (by exact ⟨(HCF.out.alloc _).cell xb (by simp), (HCF.out.alloc _).cell x2 (by simp)⟩) (fun hHd2 => ?_)
                    clear hK K hHd1
                    try simp only [Act.put, List.setIfInBounds_toArray, List.set_cons_zero, List.set_cons_succ, List.getElem_toArray, List.getElem_cons_zero, List.getElem_cons_succ]
                    refine wpAnyL_ready (rs := [18]) (by kernel_rfl) (by simp) ?_
                    refine (AllReadyL.consLate rfl (by kernel_rfl) (fun K hK => ?_) AllReadyL.nil)
                    go_simp
                    refine hK.out _ _ ?_
                    clear hK K hHd2
                    try simp only [Act.put, List.setIfInBounds_toArray, List.set_cons_zero, List.set_cons_succ, List.getElem_toArray, List.getElem_cons_zero, List.getElem_cons_succ]
                    refine wpAnyL_done (by kernel_rfl) ?_ _
                    go_wp2_with fail
                    go_meet
                    first
                      | exact ⟨w5.heap.size, gd, gc, rfl, heap_alloc_new w5 _, HCF.out.size, HGD.out, own_fr HCO.out ((Fr.refl [] w5).alloc _) (by simp), HCF.out.alloc _⟩
                      | (refine ⟨wr.heap.size, gd, gc, rfl, box_set2 HZ5.out, Nat.le_refl _, ?_, own_fr (own_base HCO.out (by simp)) (((Fr.refl [wr.heap.size] w5).setCell (by simp) _).setCell (by simp) _) ?_, (HCF.out.setCell (by intro h; exact absurd h (Nat.lt_irrefl _)) _).setCell (by intro h; exact absurd h (Nat.lt_irrefl _)) _⟩
                         · have := HGD.out; simp at this; omega
                         · intro i hi hm
                           have := HGD.out
                           simp [Value.ownBlock] at hi hm this
                           omega)
                  · go_simp
                    refine hK.out _ _ (by exact ⟨(((Fr.refl [] wr).drew).alloc _).cell xb (by simp), (((Fr.refl [] wr).drew).alloc _).cell x2 (by simp)⟩) (fun hHd4 => ?_)
                    clear hK K hHd0
                    try simp only [Act.put, List.setIfInBounds_toArray, List.set_cons_zero, List.set_cons_succ, List.getElem_toArray, List.getElem_cons_zero, List.getElem_cons_succ]
                    refine wpAnyL_ready (rs := [15]) (by kernel_rfl) (by simp) ?_
                    refine (AllReadyL.cons rfl (fun K hK => ?_) AllReadyL.nil)
                    go_simp
                    refine (copy_any (some ⟨ab, ao + (Q + 1), none⟩) (c - (Q + 1)) d (wr.drew.alloc (.cells #[.bool false, .slice none 0 0] 86)) (by have := HDL2.out; omega) (HRB.out _ (((Fr.refl [] wr).drew).alloc _))).mono ?_
                    rintro e w5 ⟨cv, rfl, hcv⟩
                    obtain ⟨gd, gc, rfl, hgd, hgl, hco, hcf⟩ := hcv
                    have HCO := Lib.hid hco
                    have HCF := Lib.hid ((((Fr.refl [] wr).drew).alloc _).trans hcf)
                    have HGD := Lib.hid hgd
                    have HGL := Lib.hid hgl
                    have hz5 : w5.heap[wr.heap.size]? = some (.cells #[.bool false, .slice none 0 0] 86) := hcf.obj (show (wr.drew.alloc (.cells #[.bool false, .slice none 0 0] 86)).heap[wr.heap.size]? = _ from heap_alloc_new wr.drew _) (by simp)
                    obtain ⟨z0, z1⟩ := duo hz5
                    have zf0 : w5.frozen? ⟨wr.heap.size, 0, none⟩ = false := frozen_of_row _ _ 0 _ _ hz5
                    have zf1 : w5.frozen? ⟨wr.heap.size, 1, none⟩ = false := frozen_of_row _ _ 1 _ _ hz5
                    have HZ5 := Lib.hid hz5
                    have hwz : wr.heap.size < w5.heap.size := (Array.getElem?_eq_some_iff.1 hz5).1
                    clear hz5 hco hcf hgd hgl
                    go_simp
                    refine hK.out _ _ (by exact ⟨HCF.out.cell xb (by simp), HCF.out.cell x2 (by simp)⟩) (fun hHd5 => ?_)
                    clear hK K hHd4
                    try simp only [Act.put, List.setIfInBounds_toArray, List.set_cons_zero, List.set_cons_succ, List.getElem_toArray, List.getElem_cons_zero, List.getElem_cons_succ]
                    refine wpAnyL_take (i := 16) (v := ?_) rfl (by kernel_rfl) (by kernel_rfl) (by kernel_rfl) (by kernel_rfl) (by kernel_rfl) (fun _ _ _ h => h) (Or.inl ⟨by rfl, ?_⟩) hHd5 ?_
                    rotate_left
                    · (intro w hSw; (try dsimp only at hSw); go_simp; (try with_reducible rfl))
                    try simp only [Act.put, List.setIfInBounds_toArray, List.set_cons_zero, List.set_cons_succ, List.getElem_toArray, List.getElem_cons_zero, List.getElem_cons_succ]
                    refine wpAnyL_ready (rs := [18]) (by kernel_rfl) (by simp) ?_
                    refine (AllReadyL.consLate rfl (by kernel_rfl) (fun K hK => ?_) AllReadyL.nil)
                    go_simp
                    refine hK.out _ _ ?_
                    clear hK K hHd5
                    try simp only [Act.put, List.setIfInBounds_toArray, List.set_cons_zero, List.set_cons_succ, List.getElem_toArray, List.getElem_cons_zero, List.getElem_cons_succ]
                    refine wpAnyL_done (by kernel_rfl) ?_ _
                    go_wp2_with fail
                    go_meet
                    first
                      | exact ⟨w5.heap.size, gd, gc, rfl, heap_alloc_new w5 _, HCF.out.size, HGD.out, own_fr HCO.out ((Fr.refl [] w5).alloc _) (by simp), HCF.out.alloc _⟩
                      | (refine ⟨wr.heap.size, gd, gc, rfl, box_set2 HZ5.out, Nat.le_refl _, ?_, own_fr (own_base HCO.out (by simp)) (((Fr.refl [wr.heap.size] w5).setCell (by simp) _).setCell (by simp) _) ?_, (HCF.out.setCell (by intro h; exact absurd h (Nat.lt_irrefl _)) _).setCell (by intro h; exact absurd h (Nat.lt_irrefl _)) _⟩
                         · have := HGD.out; simp at this; omega
                         · intro i hi hm
                           have := HGD.out
                           simp [Value.ownBlock] at hi hm this
                           omega)
                case rest =>
                  obtain ⟨bx, gx, cap, rfl, hrow, hbx, hgx, hown, hfx⟩ := hcut
                  obtain ⟨z0, z1⟩ := duo hrow
                  have HROW := Lib.hid hrow
                  have HOWN := Lib.hid hown
                  have HFX := Lib.hid hfx
                  have HGX := Lib.hid (HG.out.keep hfx)
                  have HGXB := Lib.hid hgx
                  have HBX := Lib.hid hbx
                  have y3 : wc.cell? ⟨F, 3, none⟩ = some (.slice va X.length vc) := hfx.cell x3 (by simp)
                  have hXb : X.length ≤ 65536 := by have := HXL.out; have := HSS.out; omega
                  have hd5 : d.length ≤ 255 := by have := HDL2.out; have := HSS.out; omega
                  clear hrow hown hfx hbx hgx e1 e2 t1 t2 t3 t4 t5 t6 t7 t8 HRB x2 x3 xb hPi hPw hPw2 hQl hQn hQ0
                  have HSTA : Hid (readR S M bod = preR (T ++ [some d]) (readR S (M - (k + 1)) (bod.drop ((k + 1) * S)))) := Lib.hid (by
                    rw [HST.out]
                    unfold oneR
                    rw [← HX.out, if_neg hx1, if_pos hx0, ← HD.out]
                    exact preR_snoc _ _ _)
                  have HPO : Hid (RI.p ⟨true, some ⟨gx, 0, none⟩, cap, d⟩ = docO S (some d)) := Lib.hid rfl
                  clear hx1 hx0
                  go_wp2_with fail
                  go_loop [9] (fun i => ∃ j : Nat, j ≤ d.length ∧ i = .int .i64 j) (fun i => d.length - (intOf i).toNat)
                  case atStart => exact ⟨0, by omega, rfl⟩
                  case round =>
                    obtain ⟨j, hj, rfl⟩ := hrel
                    by_cases hlj : j < d.length
                    · have hji : (j : Int) < (d.length : Int) := by omega
                      go_wp2
                      go_round
                      case rel => exact ⟨j + 1, by omega, by go_num⟩
                      case measure => simp [intOf] <;> omega
                    · have hji : ¬ (j : Int) < (d.length : Int) := by omega
                      have hjn : ¬ j < d.length := hlj
                      go_upto_region 25 with fail
                      refine region_late (fun w' => w'.cell? ⟨F, 3, none⟩ = some (.slice va X.length vc) ∧ w'.cell? ⟨bx, 0, none⟩ = some (.bool true) ∧ w'.cell? ⟨bx, 1, none⟩ = some (.slice (some ⟨gx, 0, none⟩) d.length cap)) [10] (by kernel_rfl) (by exact ⟨y3, z0, z1⟩) (fun hHd0 => ?_)
                      refine wpAnyL_pure (i := 0) (v := ?_) rfl (by kernel_rfl) (by kernel_rfl) (by kernel_rfl) (by kernel_rfl) (by kernel_rfl) (fun _ _ _ h => h) (Or.inl ⟨by rfl, ?_⟩) (fun _ => hHd0) ?_
                      rotate_left
                      · (intro w _; go_simp; (try with_reducible rfl))
                      try simp only [Act.put, List.setIfInBounds_toArray, List.set_cons_zero, List.set_cons_succ, List.getElem_toArray, List.getElem_cons_zero, List.getElem_cons_succ]
                      refine wpAnyL_pure (i := 1) (v := ?_) rfl (by kernel_rfl) (by kernel_rfl) (by kernel_rfl) (by kernel_rfl) (by kernel_rfl) (fun _ _ _ h => h) (Or.inl ⟨by rfl, ?_⟩) (fun _ => hHd0) ?_
                      rotate_left
                      · (intro w _; go_simp; (try with_reducible rfl))
                      try simp only [Act.put, List.setIfInBounds_toArray, List.set_cons_zero, List.set_cons_succ, List.getElem_toArray, List.getElem_cons_zero, List.getElem_cons_succ]
                      refine wpAnyL_pure (i := 2) (v := ?_) rfl (by kernel_rfl) (by kernel_rfl) (by kernel_rfl) (by kernel_rfl) (by kernel_rfl) (fun _ _ _ h => h) (Or.inl ⟨by rfl, ?_⟩) (fun _ => hHd0) ?_
                      rotate_left
                      · (intro w _; go_simp; (try with_reducible rfl))
                      try simp only [Act.put, List.setIfInBounds_toArray, List.set_cons_zero, List.set_cons_succ, List.getElem_toArray, List.getElem_cons_zero, List.getElem_cons_succ]
                      refine wpAnyL_pure (i := 3) (v := ?_) rfl (by kernel_rfl) (by kernel_rfl) (by kernel_rfl) (by kernel_rfl) (by kernel_rfl) (fun _ _ _ h => h) (Or.inl ⟨by rfl, ?_⟩) (fun _ => hHd0) ?_
                      rotate_left
                      · (intro w _; go_simp; (try with_reducible rfl))
                      try simp only [Act.put, List.setIfInBounds_toArray, List.set_cons_zero, List.set_cons_succ, List.getElem_toArray, List.getElem_cons_zero, List.getElem_cons_succ]
                      refine wpAnyL_take (i := 4) (v := ?_) rfl (by kernel_rfl) (by kernel_rfl) (by kernel_rfl) (by kernel_rfl) (by kernel_rfl) (fun _ _ _ h => h) (Or.inl ⟨by rfl, ?_⟩) hHd0 ?_
                      rotate_left
                      · (intro w hSw; (try dsimp only at hSw); go_simp; (try with_reducible rfl))
                      try simp only [Act.put, List.setIfInBounds_toArray, List.set_cons_zero, List.set_cons_succ, List.getElem_toArray, List.getElem_cons_zero, List.getElem_cons_succ]
                      refine wpAnyL_take (i := 5) (v := ?_) rfl (by kernel_rfl) (by kernel_rfl) (by kernel_rfl) (by kernel_rfl) (by kernel_rfl) (fun _ _ _ h => h) (Or.inl ⟨by rfl, ?_⟩) hHd0 ?_
                      rotate_left
                      · (intro w hSw; (try dsimp only at hSw); go_simp; (try with_reducible rfl))
                      try simp only [Act.put, List.setIfInBounds_toArray, List.set_cons_zero, List.set_cons_succ, List.getElem_toArray, List.getElem_cons_zero, List.getElem_cons_succ]
                      refine wpAnyL_ready (rs := [6]) (by kernel_rfl) (by simp) ?_
                      refine (AllReadyL.cons rfl (fun K hK => ?_) AllReadyL.nil)
                      go_simp
                      refine hK.out _ _ (by exact ⟨(((Fr.refl [] wc).drew).alloc _).cell y3 (by simp), (((Fr.refl [] wc).drew).alloc _).cell z0 (by simp), (((Fr.refl [] wc).drew).alloc _).cell z1 (by simp)⟩) (fun hHd1 => ?_)
                      clear hK K hHd0
                      try simp only [Act.put, List.setIfInBounds_toArray, List.set_cons_zero, List.set_cons_succ, List.getElem_toArray, List.getElem_cons_zero, List.getElem_cons_succ]
                      refine wpAnyL_ready (rs := [7]) (by kernel_rfl) (by simp) ?_
                      refine (AllReadyL.cons rfl (fun K hK => ?_) AllReadyL.nil)
                      have hfA : Fr [] wc (wc.drew.alloc (.cells #[.bool true, .slice (some ⟨gx, 0, none⟩) d.length cap] 86)) := ((Fr.refl [] wc).drew).alloc _
                      have HH5 := Lib.hid (HGX.out.keep hfA)
                      have HY5 : Hid ((wc.drew.alloc (.cells #[.bool true, .slice (some ⟨gx, 0, none⟩) d.length cap] 86)).ownsRow w.heap.size 5 1 (RI.v ⟨true, some ⟨gx, 0, none⟩, cap, d⟩) d.length (d.map B8)) := Lib.hid (own_fr (own_base HOWN.out HFR.out.size) hfA (by simp))
                      have HFA := Lib.hid hfA
                      have HBB : Hid (w.heap.size ≤ (wc.drew.alloc (.cells #[.bool true, .slice (some ⟨gx, 0, none⟩) d.length cap] 86)).heap.size) := Lib.hid (by have := HFR.out.size; have := HFX.out.size; simp; omega)
                      clear hfA
                      refine step_appS rfl (.tmp 125) (.tmp 127) 82 rfl w.heap.size 86 (.agg #[.bool false, .slice none 0 0]) 2 32 Tryd.underlying82 infoRI rfl (by decide) (.slice va X.length vc) X.length (riCells X) (by simp [Act.eval, Act.put]) HH5.out.recs.row (some ⟨wc.heap.size, 0, none⟩) 1 1 [.bool true, .slice (some ⟨gx, 0, none⟩) d.length cap] (by simp [Act.eval, Act.put]) rfl (bx_news2 (show (wc.drew.alloc _).heap[wc.heap.size]? = _ from heap_alloc_new wc.drew _)) (fun h => by cases h) (by simp [Value.oneCell']) (by unfold maxLen; omega) (by omega) HBB.out ?_
                      intro v' w6 happ
                      obtain ⟨va2, vc2, rfl⟩ := own_slR happ.own
                      have hra := MFH.app (y := ⟨true, some ⟨gx, 0, none⟩, cap, d⟩) (o := some d) HH5.out HY5.out happ (fun g hg e => by
                        have h1 : gx = g := by simpa [RI.v, Value.ownBlock] using hg
                        have := (own_lt HG.out.recs.row e).2
                        have := HGXB.out
                        omega) HPO.out (by show T.length < 65536; have := HTL.out; have := HSS.out; omega) (fun e h => by cases h; have := HDL.out; exact this)
                      have HRA := Lib.hid hra
                      have z1 : w6.heap[F]? = some (.cells #[.int .i64 kd, .int .i64 vr, .int .i64 S, .slice va X.length vc] 84) := (app_frZ happ).obj HH5.out.obj (fun hm => HH5.out.ne (by simpa using hm))
                      obtain ⟨z10, z11, z12, z13⟩ := four z1
                      have z1f := frozen_of_row _ _ 3 _ _ z1
                      have HBN : bx ∉ (Value.slice va X.length vc).ownBlock.toList := fun hm => by
                        have := (own_lt HG.out.recs.row (show (Value.slice va X.length vc).ownBlock = some bx by simpa using hm)).2
                        have := HBX.out
                        omega
                      obtain ⟨z60, z61⟩ := duo ((app_frZ happ).obj (HFA.out.obj HROW.out (by simp)) HBN)
                      clear hra happ z1 HBN
                      refine hK.out _ _ (by exact ⟨z13, z60, z61⟩) (fun hHd2 => ?_)
                      clear hK K hHd1
                      try simp only [Act.put, List.setIfInBounds_toArray, List.set_cons_zero, List.set_cons_succ, List.getElem_toArray, List.getElem_cons_zero, List.getElem_cons_succ]
                      refine wpAnyL_pure (i := 8) (v := ?_) rfl (by kernel_rfl) (by kernel_rfl) (by kernel_rfl) (by kernel_rfl) (by kernel_rfl) (fun _ _ _ h => h) (Or.inl ⟨by rfl, ?_⟩) (fun _ => hHd2) ?_
                      rotate_left
                      · (intro w _; go_simp; (try with_reducible rfl))
                      try simp only [Act.put, List.setIfInBounds_toArray, List.set_cons_zero, List.set_cons_succ, List.getElem_toArray, List.getElem_cons_zero, List.getElem_cons_succ]
                      refine wpAnyL_pure (i := 9) (v := ?_) rfl (by kernel_rfl) (by kernel_rfl) (by kernel_rfl) (by kernel_rfl) (by kernel_rfl) (fun _ _ _ h => h) (Or.inl ⟨by rfl, ?_⟩) (fun _ => hHd2) ?_
                      rotate_left
                      · (intro w _; go_simp; (try with_reducible rfl))
                      try simp only [Act.put, List.setIfInBounds_toArray, List.set_cons_zero, List.set_cons_succ, List.getElem_toArray, List.getElem_cons_zero, List.getElem_cons_succ]
                      refine wpAnyL_ready (rs := [10]) (by kernel_rfl) (by simp) ?_
                      refine (AllReadyL.consLate rfl (by kernel_rfl) (fun K hK => ?_) AllReadyL.nil)
                      go_simp
                      refine hK.out _ _ ?_
                      clear hK K hHd2
                      try simp only [Act.put, List.setIfInBounds_toArray, List.set_cons_zero, List.set_cons_succ, List.getElem_toArray, List.getElem_cons_zero, List.getElem_cons_succ]
                      refine wpAnyL_done (by kernel_rfl) ?_ _
                      go_wp2
                      obtain ⟨q1, q2, -⟩ := HRA.out
                      go_roundw
                      case rel =>
                        refine ⟨k + 1, _, _, _, by omega, by go_num, q1, by simp [HTL.out], HSTA.out, (HFR.out.trans (HFX.out.trans HFA.out)).next q2 ?_⟩
                        intro i hi hlt
                        have := (HG.out.lt i hi).1
                        omega
                      case measure => simp [intOf] <;> omega

              · have hI : I8 x = 0 := by unfold I8; omega
                rw [hI] at xb
                obtain ⟨d, hd⟩ : ∃ d, d = r.drop 1 := ⟨_, rfl⟩
                have hdl : d.length + 1 = S := by rw [hd, List.length_drop]; have := HRL.out; omega
                have HDL := Lib.hid hdl
                have HDL2 : Hid (d.length = S - 1) := Lib.hid (by omega)
                rw [← hd] at HRB
                have HD := Lib.hid hd
                have e1 : IntKind.i64.wrap ((Q : Int) + 1) = (Q : Int) + 1 := IntWalk.i64_in _ (by omega)
                have e2 : IntKind.i64.wrap ((Q : Int) + (S : Int)) = (Q : Int) + (S : Int) := IntWalk.i64_in _ (by omega)
                have t1 : ((Q : Int) + 1).toNat = Q + 1 := by omega
                have t2 : ((Q : Int) + (S : Int)).toNat - (Q + 1) = d.length := by omega
                have t3 : (0 : Int) ≤ (Q : Int) + 1 := by omega
                have t4 : (0 : Int) ≤ (Q : Int) + (S : Int) := by omega
                have t5 : (Q : Int) + 1 ≤ (Q : Int) + (S : Int) := by omega
                have t6 : (Q : Int) + (S : Int) ≤ (c : Int) := by have := HPS.out; have := HC.out; omega
                have t7 : max ((Q : Int) + (S : Int)) 0 = (Q : Int) + (S : Int) := by omega
                have t8 : ¬ c = Q + 1 := by have := HPS.out; have := HC.out; omega
                clear hd hdl hI
                go_upto_region 19 with fail
                go_cut [8] (fun y wx => ∃ (bx g cap : Nat), y = .pointer (some ⟨bx, 0, none⟩) ∧ wx.heap[bx]? = some (.cells #[.bool false, .slice (some ⟨g, 0, none⟩) d.length cap] 86) ∧ wr.heap.size ≤ bx ∧ wr.heap.size ≤ g ∧ wx.ownsRow wr.heap.size 5 1 (.slice (some ⟨g, 0, none⟩) d.length cap) d.length (d.map B8) ∧ Fr [] wr wx)
                case first =>
                  refine region_late (fun w' => w'.cell? ⟨ab, ao + Q, none⟩ = some (.int .u8 0) ∧ w'.cell? ⟨F, 2, none⟩ = some (.int .i64 (S : Int))) [18] (by kernel_rfl) (by exact ⟨xb, x2⟩) (fun hHd0 => ?_)
                  refine wpAnyL_pure (i := 0) (v := ?_) rfl (by kernel_rfl) (by kernel_rfl) (by kernel_rfl) (by kernel_rfl) (by kernel_rfl) (fun _ _ _ h => h) (Or.inl ⟨by rfl, ?_⟩) (fun _ => hHd0) ?_
                  rotate_left
                  · (intro w _; go_simp; (try with_reducible rfl))
                  try simp only [Act.put, List.setIfInBounds_toArray, List.set_cons_zero, List.set_cons_succ, List.getElem_toArray, List.getElem_cons_zero, List.getElem_cons_succ]
                  refine wpAnyL_pure (i := 1) (v := ?_) rfl (by kernel_rfl) (by kernel_rfl) (by kernel_rfl) (by kernel_rfl) (by kernel_rfl) (fun _ _ _ h => h) (Or.inl ⟨by rfl, ?_⟩) (fun _ => hHd0) ?_
                  rotate_left
                  · (intro w _; go_simp; (try with_reducible rfl))
                  try simp only [Act.put, List.setIfInBounds_toArray, List.set_cons_zero, List.set_cons_succ, List.getElem_toArray, List.getElem_cons_zero, List.getElem_cons_succ]
                  refine wpAnyL_take (i := 2) (v := ?_) rfl (by kernel_rfl) (by kernel_rfl) (by kernel_rfl) (by kernel_rfl) (by kernel_rfl) (fun _ _ _ h => h) (Or.inl ⟨by rfl, ?_⟩) hHd0 ?_
                  rotate_left
                  · (intro w hSw; (try dsimp only at hSw); go_simp; (try with_reducible rfl))
                  try simp only [Act.put, List.setIfInBounds_toArray, List.set_cons_zero, List.set_cons_succ, List.getElem_toArray, List.getElem_cons_zero, List.getElem_cons_succ]
                  refine wpAnyL_take (i := 3) (v := ?_) rfl (by kernel_rfl) (by kernel_rfl) (by kernel_rfl) (by kernel_rfl) (by kernel_rfl) (fun _ _ _ h => h) (Or.inl ⟨by rfl, ?_⟩) hHd0 ?_
                  rotate_left
                  · (intro w hSw; (try dsimp only at hSw); go_simp; (try with_reducible rfl))
                  try simp only [Act.put, List.setIfInBounds_toArray, List.set_cons_zero, List.set_cons_succ, List.getElem_toArray, List.getElem_cons_zero, List.getElem_cons_succ]
                  refine wpAnyL_take (i := 4) (v := ?_) rfl (by kernel_rfl) (by kernel_rfl) (by kernel_rfl) (by kernel_rfl) (by kernel_rfl) (fun _ _ _ h => h) (Or.inl ⟨by rfl, ?_⟩) hHd0 ?_
                  rotate_left
                  · (intro w hSw; (try dsimp only at hSw); go_simp; (try with_reducible rfl))
                  try simp only [Act.put, List.setIfInBounds_toArray, List.set_cons_zero, List.set_cons_succ, List.getElem_toArray, List.getElem_cons_zero, List.getElem_cons_succ]
                  refine wpAnyL_pure (i := 5) (v := ?_) rfl (by kernel_rfl) (by kernel_rfl) (by kernel_rfl) (by kernel_rfl) (by kernel_rfl) (fun _ _ _ h => h) (Or.inl ⟨by rfl, ?_⟩) (fun _ => hHd0) ?_
                  rotate_left
                  · (intro w _; go_simp; (try with_reducible rfl))
                  try simp only [Act.put, List.setIfInBounds_toArray, List.set_cons_zero, List.set_cons_succ, List.getElem_toArray, List.getElem_cons_zero, List.getElem_cons_succ]
                  refine wpAnyL_pure (i := 6) (v := ?_) rfl (by kernel_rfl) (by kernel_rfl) (by kernel_rfl) (by kernel_rfl) (by kernel_rfl) (fun _ _ _ h => h) (Or.inl ⟨by rfl, ?_⟩) (fun _ => hHd0) ?_
                  rotate_left
                  · (intro w _; go_simp; (try with_reducible rfl))
                  try simp only [Act.put, List.setIfInBounds_toArray, List.set_cons_zero, List.set_cons_succ, List.getElem_toArray, List.getElem_cons_zero, List.getElem_cons_succ]
                  refine wpAnyL_take (i := 7) (v := ?_) rfl (by kernel_rfl) (by kernel_rfl) (by kernel_rfl) (by kernel_rfl) (by kernel_rfl) (fun _ _ _ h => h) (Or.inl ⟨by rfl, ?_⟩) hHd0 ?_
                  rotate_left
                  · (intro w hSw; (try dsimp only at hSw); go_simp; (try with_reducible rfl))
                  try simp only [Act.put, List.setIfInBounds_toArray, List.set_cons_zero, List.set_cons_succ, List.getElem_toArray, List.getElem_cons_zero, List.getElem_cons_succ]
                  refine wpAnyL_pure (i := 8) (v := ?_) rfl (by kernel_rfl) (by kernel_rfl) (by kernel_rfl) (by kernel_rfl) (by kernel_rfl) (fun _ _ _ h => h) (Or.inl ⟨by rfl, ?_⟩) (fun _ => hHd0) ?_
                  rotate_left
                  · (intro w _; go_simp; (try with_reducible rfl))
                  try simp only [Act.put, List.setIfInBounds_toArray, List.set_cons_zero, List.set_cons_succ, List.getElem_toArray, List.getElem_cons_zero, List.getElem_cons_succ]
                  refine wpAnyL_pure (i := 9) (v := ?_) rfl (by kernel_rfl) (by kernel_rfl) (by kernel_rfl) (by kernel_rfl) (by kernel_rfl) (fun _ _ _ h => h) (Or.inl ⟨by rfl, ?_⟩) (fun _ => hHd0) ?_
                  rotate_left
                  · (intro w _; go_simp; (try with_reducible rfl))
                  try simp only [Act.put, List.setIfInBounds_toArray, List.set_cons_zero, List.set_cons_succ, List.getElem_toArray, List.getElem_cons_zero, List.getElem_cons_succ]
                  refine wpAnyL_pure (i := 10) (v := ?_) rfl (by kernel_rfl) (by kernel_rfl) (by kernel_rfl) (by kernel_rfl) (by kernel_rfl) (fun _ _ _ h => h) (Or.inl ⟨by rfl, ?_⟩) (fun _ => hHd0) ?_
                  rotate_left
                  · (intro w _; go_simp; (try with_reducible rfl))
                  try simp only [Act.put, List.setIfInBounds_toArray, List.set_cons_zero, List.set_cons_succ, List.getElem_toArray, List.getElem_cons_zero, List.getElem_cons_succ]
                  refine wpAnyL_pure (i := 11) (v := ?_) rfl (by kernel_rfl) (by kernel_rfl) (by kernel_rfl) (by kernel_rfl) (by kernel_rfl) (fun _ _ _ h => h) (Or.inl ⟨by rfl, ?_⟩) (fun _ => hHd0) ?_
                  rotate_left
                  · (intro w _; go_simp; (try with_reducible rfl))
                  try simp only [Act.put, List.setIfInBounds_toArray, List.set_cons_zero, List.set_cons_succ, List.getElem_toArray, List.getElem_cons_zero, List.getElem_cons_succ]
                  refine wpAnyL_take (i := 12) (v := ?_) rfl (by kernel_rfl) (by kernel_rfl) (by kernel_rfl) (by kernel_rfl) (by kernel_rfl) (fun _ _ _ h => h) (Or.inl ⟨by rfl, ?_⟩) hHd0 ?_
                  rotate_left
                  · (intro w hSw; (try dsimp only at hSw); go_simp; (try with_reducible rfl))
                  try simp only [Act.put, List.setIfInBounds_toArray, List.set_cons_zero, List.set_cons_succ, List.getElem_toArray, List.getElem_cons_zero, List.getElem_cons_succ]
                  refine wpAnyL_take (i := 13) (v := ?_) rfl (by kernel_rfl) (by kernel_rfl) (by kernel_rfl) (by kernel_rfl) (by kernel_rfl) (fun _ _ _ h => h) (Or.inl ⟨by rfl, ?_⟩) hHd0 ?_
                  rotate_left
                  · (intro w hSw; (try dsimp only at hSw); go_simp; (try with_reducible rfl))
                  try simp only [Act.put, List.setIfInBounds_toArray, List.set_cons_zero, List.set_cons_succ, List.getElem_toArray, List.getElem_cons_zero, List.getElem_cons_succ]
                  refine wpAnyL_take (i := 14) (v := ?_) rfl (by kernel_rfl) (by kernel_rfl) (by kernel_rfl) (by kernel_rfl) (by kernel_rfl) (fun _ _ _ h => h) (Or.inl ⟨by rfl, ?_⟩) hHd0 ?_
                  rotate_left
                  · (intro w hSw; (try dsimp only at hSw); go_simp; (try with_reducible rfl))
                  try simp only [Act.put, List.setIfInBounds_toArray, List.set_cons_zero, List.set_cons_succ, List.getElem_toArray, List.getElem_cons_zero, List.getElem_cons_succ]
                  refine wpAnyL_ready (rs := [15, 17]) (by kernel_rfl) (by simp) ?_
                  refine (AllReadyL.cons rfl (fun K hK => ?_) (AllReadyL.cons rfl (fun K hK => ?_) AllReadyL.nil))
                  · go_simp
                    refine (copy_any (some ⟨ab, ao + (Q + 1), none⟩) (c - (Q + 1)) d wr.drew (by have := HDL2.out; omega) (HRB.out _ ((Fr.refl [] wr).drew))).mono ?_
                    rintro e w5 ⟨cv, rfl, hcv⟩
                    obtain ⟨gd, gc, rfl, hgd, hgl, hco, hcf⟩ := hcv
                    have HCO := Lib.hid hco
                    have HCF := Lib.hid (((Fr.refl [] wr).drew).trans hcf)
                    have HGD := Lib.hid hgd
                    have HGL := Lib.hid hgl
                    clear hco hcf hgd hgl
                    go_simp
                    refine hK.out _ _ (by exact ⟨HCF.out.cell xb (by simp), HCF.out.cell x2 (by simp)⟩) (fun hHd1 => ?_)
                    clear hK K hHd0
                    try simp only [Act.put, List.setIfInBounds_toArray, List.set_cons_zero, List.set_cons_succ, List.getElem_toArray, List.getElem_cons_zero, List.getElem_cons_succ]
                    refine wpAnyL_take (i := 16) (v := ?_) rfl (by kernel_rfl) (by kernel_rfl) (by kernel_rfl) (by kernel_rfl) (by kernel_rfl) (fun _ _ _ h => h) (Or.inl ⟨by rfl, ?_⟩) hHd1 ?_
                    rotate_left
                    · (intro w hSw; (try dsimp only at hSw); go_simp; (try with_reducible rfl))
                    try simp only [Act.put, List.setIfInBounds_toArray, List.set_cons_zero, List.set_cons_succ, List.getElem_toArray, List.getElem_cons_zero, List.getElem_cons_succ]
                    refine wpAnyL_ready (rs := [17]) (by kernel_rfl) (by simp) ?_
                    refine (AllReadyL.cons rfl (fun K hK => ?_) AllReadyL.nil)
                    go_simp
                    refine hK.out _ _ (by exact ⟨(HCF.out.alloc _).cell xb (by simp), (HCF.out.alloc _).cell x2 (by simp)⟩) (fun hHd2 => ?_)
                    clear hK K hHd1
                    try simp only [Act.put, List.setIfInBounds_toArray, List.set_cons_zero, List.set_cons_succ, List.getElem_toArray, List.getElem_cons_zero, List.getElem_cons_succ]
                    refine wpAnyL_ready (rs := [18]) (by kernel_rfl) (by simp) ?_
                    refine (AllReadyL.consLate rfl (by kernel_rfl) (fun K hK => ?_) AllReadyL.nil)
                    go_simp
                    refine hK.out _ _ ?_
                    clear hK K hHd2
                    try simp only [Act.put, List.setIfInBounds_toArray, List.set_cons_zero, List.set_cons_succ, List.getElem_toArray, List.getElem_cons_zero, List.getElem_cons_succ]
                    refine wpAnyL_done (by kernel_rfl) ?_ _
                    go_wp2_with fail
                    go_meet
                    first
                      | exact ⟨w5.heap.size, gd, gc, rfl, heap_alloc_new w5 _, HCF.out.size, HGD.out, own_fr HCO.out ((Fr.refl [] w5).alloc _) (by simp), HCF.out.alloc _⟩
                      | (refine ⟨wr.heap.size, gd, gc, rfl, box_set2 HZ5.out, Nat.le_refl _, ?_, own_fr (own_base HCO.out (by simp)) (((Fr.refl [wr.heap.size] w5).setCell (by simp) _).setCell (by simp) _) ?_, (HCF.out.setCell (by intro h; exact absurd h (Nat.lt_irrefl _)) _).setCell (by intro h; exact absurd h (Nat.lt_irrefl _)) _⟩
                         · have := HGD.out; simp at this; omega
                         · intro i hi hm
                           have := HGD.out
                           simp [Value.ownBlock] at hi hm this
                           omega)
                  · go_simp
                    refine hK.out _ _ (by exact ⟨(((Fr.refl [] wr).drew).alloc _).cell xb (by simp), (((Fr.refl [] wr).drew).alloc _).cell x2 (by simp)⟩) (fun hHd4 => ?_)
                    clear hK K hHd0
                    try simp only [Act.put, List.setIfInBounds_toArray, List.set_cons_zero, List.set_cons_succ, List.getElem_toArray, List.getElem_cons_zero, List.getElem_cons_succ]
                    refine wpAnyL_ready (rs := [15]) (by kernel_rfl) (by simp) ?_
                    refine (AllReadyL.cons rfl (fun K hK => ?_) AllReadyL.nil)
                    go_simp
                    refine (copy_any (some ⟨ab, ao + (Q + 1), none⟩) (c - (Q + 1)) d (wr.drew.alloc (.cells #[.bool false, .slice none 0 0] 86)) (by have := HDL2.out; omega) (HRB.out _ (((Fr.refl [] wr).drew).alloc _))).mono ?_
                    rintro e w5 ⟨cv, rfl, hcv⟩
                    obtain ⟨gd, gc, rfl, hgd, hgl, hco, hcf⟩ := hcv
                    have HCO := Lib.hid hco
                    have HCF := Lib.hid ((((Fr.refl [] wr).drew).alloc _).trans hcf)
                    have HGD := Lib.hid hgd
                    have HGL := Lib.hid hgl
                    have hz5 : w5.heap[wr.heap.size]? = some (.cells #[.bool false, .slice none 0 0] 86) := hcf.obj (show (wr.drew.alloc (.cells #[.bool false, .slice none 0 0] 86)).heap[wr.heap.size]? = _ from heap_alloc_new wr.drew _) (by simp)
                    obtain ⟨z0, z1⟩ := duo hz5
                    have zf0 : w5.frozen? ⟨wr.heap.size, 0, none⟩ = false := frozen_of_row _ _ 0 _ _ hz5
                    have zf1 : w5.frozen? ⟨wr.heap.size, 1, none⟩ = false := frozen_of_row _ _ 1 _ _ hz5
                    have HZ5 := Lib.hid hz5
                    have hwz : wr.heap.size < w5.heap.size := (Array.getElem?_eq_some_iff.1 hz5).1
                    clear hz5 hco hcf hgd hgl
                    go_simp
                    refine hK.out _ _ (by exact ⟨HCF.out.cell xb (by simp), HCF.out.cell x2 (by simp)⟩) (fun hHd5 => ?_)
                    clear hK K hHd4
                    try simp only [Act.put, List.setIfInBounds_toArray, List.set_cons_zero, List.set_cons_succ, List.getElem_toArray, List.getElem_cons_zero, List.getElem_cons_succ]
                    refine wpAnyL_take (i := 16) (v := ?_) rfl (by kernel_rfl) (by kernel_rfl) (by kernel_rfl) (by kernel_rfl) (by kernel_rfl) (fun _ _ _ h => h) (Or.inl ⟨by rfl, ?_⟩) hHd5 ?_
                    rotate_left
                    · (intro w hSw; (try dsimp only at hSw); go_simp; (try with_reducible rfl))
                    try simp only [Act.put, List.setIfInBounds_toArray, List.set_cons_zero, List.set_cons_succ, List.getElem_toArray, List.getElem_cons_zero, List.getElem_cons_succ]
                    refine wpAnyL_ready (rs := [18]) (by kernel_rfl) (by simp) ?_
                    refine (AllReadyL.consLate rfl (by kernel_rfl) (fun K hK => ?_) AllReadyL.nil)
                    go_simp
                    refine hK.out _ _ ?_
                    clear hK K hHd5
                    try simp only [Act.put, List.setIfInBounds_toArray, List.set_cons_zero, List.set_cons_succ, List.getElem_toArray, List.getElem_cons_zero, List.getElem_cons_succ]
                    refine wpAnyL_done (by kernel_rfl) ?_ _
                    go_wp2_with fail
                    go_meet
                    first
                      | exact ⟨w5.heap.size, gd, gc, rfl, heap_alloc_new w5 _, HCF.out.size, HGD.out, own_fr HCO.out ((Fr.refl [] w5).alloc _) (by simp), HCF.out.alloc _⟩
                      | (refine ⟨wr.heap.size, gd, gc, rfl, box_set2 HZ5.out, Nat.le_refl _, ?_, own_fr (own_base HCO.out (by simp)) (((Fr.refl [wr.heap.size] w5).setCell (by simp) _).setCell (by simp) _) ?_, (HCF.out.setCell (by intro h; exact absurd h (Nat.lt_irrefl _)) _).setCell (by intro h; exact absurd h (Nat.lt_irrefl _)) _⟩
                         · have := HGD.out; simp at this; omega
                         · intro i hi hm
                           have := HGD.out
                           simp [Value.ownBlock] at hi hm this
                           omega)
                case rest =>
                  obtain ⟨bx, gx, cap, rfl, hrow, hbx, hgx, hown, hfx⟩ := hcut
                  obtain ⟨z0, z1⟩ := duo hrow
                  have HROW := Lib.hid hrow
                  have HOWN := Lib.hid hown
                  have HFX := Lib.hid hfx
                  have HGX := Lib.hid (HG.out.keep hfx)
                  have HGXB := Lib.hid hgx
                  have HBX := Lib.hid hbx
                  have y3 : wc.cell? ⟨F, 3, none⟩ = some (.slice va X.length vc) := hfx.cell x3 (by simp)
                  have hXb : X.length ≤ 65536 := by have := HXL.out; have := HSS.out; omega
                  have hd5 : d.length ≤ 255 := by have := HDL2.out; have := HSS.out; omega
                  clear hrow hown hfx hbx hgx e1 e2 t1 t2 t3 t4 t5 t6 t7 t8 HRB x2 x3 xb hPi hPw hPw2 hQl hQn hQ0
                  have hx00 : x = 0 := by
                    apply UInt8.toNat_inj.1
                    have : x.toNat = 0 := by omega
                    rw [this]
                    rfl
                  have hany : r.any (· != 0) = d.any (· != 0) := by
                    have hrl := HRL.out
                    cases r with
                    | nil => simp at hrl; have := HSS.out; omega
                    | cons y r' =>
                      have h1 : y = 0 := by have := HX.out; rw [hx00] at this; simpa using this.symm
                      rw [HD.out, h1]
                      rfl
                  have HANY : Hid (oneR r = if d.any (· != 0) = true then .free else .ok none) := Lib.hid (by
                    unfold oneR
                    rw [← HX.out, if_neg hx1, if_neg hx0, hany])
                  clear hx1 hx0 hx00 hany
                  go_wp2_with fail
                  go_loop [9] (fun i => ∃ j : Nat, j ≤ d.length ∧ i = .int .i64 j ∧ (d.take j).any (· != 0) = false) (fun i => d.length - (intOf i).toNat)
                  case atStart => exact ⟨0, by omega, rfl, rfl⟩
                  case round =>
                    obtain ⟨j, hj, rfl, hz⟩ := hrel
                    by_cases hlj : j < d.length
                    · have hji : (j : Int) < (d.length : Int) := by omega
                      have hj0 : (0 : Int) ≤ (j : Int) := by omega
                      have d3 := ((OwnO.of HOWN.out).cell j (by simpa using hlj)).1
                      rw [Nat.zero_add, List.getElem?_map, List.getElem?_eq_getElem hlj] at d3
                      obtain ⟨q, hq⟩ : ∃ q, q = d[j] := ⟨_, rfl⟩
                      replace d3 : wc.cell? ⟨gx, j, none⟩ = some (.int .u8 (I8 q)) := by rw [hq]; exact d3
                      have htk : (d.take (j + 1)).any (· != 0) = (q != 0) := by rw [take_snoc d j hlj, List.any_append, hz, ← hq]; simp
                      have hin : q ∈ d := by rw [hq]; exact List.getElem_mem hlj
                      clear hq
                      by_cases hq0 : q.toNat = 0
                      · have hqz : q = 0 := UInt8.toNat_inj.1 (by rw [hq0]; rfl)
                        have hqi : (I8 q != 0) = false := by rw [bne_eq_false_iff_eq]; unfold I8; omega
                        have HTK : Hid ((d.take (j + 1)).any (· != 0) = false) := Lib.hid (by rw [htk, hqz]; rfl)
                        clear hqz htk hq0 hz hin
                        go_wp2
                        go_round
                        case rel => exact ⟨j + 1, by omega, by go_num, HTK.out⟩
                        case measure => simp [intOf] <;> omega
                      · have hqi : (I8 q != 0) = true := by rw [bne_iff_ne]; unfold I8; omega
                        have HE : Hid (openB b = .error 94) := Lib.hid (by
                          rw [HOP.out]
                          refine fileOf_err ?_
                          have h1 : d.any (· != 0) = true := List.any_eq_true.2 ⟨q, hin, by rw [bne_iff_ne]; intro e; rw [e] at hq0; exact hq0 rfl⟩
                          rw [HST.out, HANY.out, if_pos h1]
                          rfl)
                        clear htk hq0 hz hin
                        go_wp2
                        go_ret2
                        exact .inl ⟨94, HE.out, rfl, HFR.out.trans HFX.out⟩
                    · have hji : ¬ (j : Int) < (d.length : Int) := by omega
                      have hjn : ¬ j < d.length := hlj
                      rw [List.take_of_length_le (by omega)] at hz
                      have hzs : d = zs (S - 1) := by
                        have h1 := List.any_eq_false.1 hz
                        rw [← HDL2.out]
                        unfold zs
                        rw [List.eq_replicate_iff]
                        exact ⟨rfl, fun y hy => by have := h1 y hy; simpa using this⟩
                      have HPO : Hid (RI.p ⟨false, some ⟨gx, 0, none⟩, cap, d⟩ = docO S none) := Lib.hid (by show (false, d) = (false, zs (S - 1)); rw [← hzs])
                      have HSTA : Hid (readR S M bod = preR (T ++ [none]) (readR S (M - (k + 1)) (bod.drop ((k + 1) * S)))) := Lib.hid (by
                        rw [HST.out, HANY.out, if_neg (by rw [hz]; simp)]
                        exact preR_snoc _ _ _)
                      clear hz hzs
                      go_upto_region 25 with fail
                      refine region_late (fun w' => w'.cell? ⟨F, 3, none⟩ = some (.slice va X.length vc) ∧ w'.cell? ⟨bx, 0, none⟩ = some (.bool false) ∧ w'.cell? ⟨bx, 1, none⟩ = some (.slice (some ⟨gx, 0, none⟩) d.length cap)) [10] (by kernel_rfl) (by exact ⟨y3, z0, z1⟩) (fun hHd0 => ?_)
                      refine wpAnyL_pure (i := 0) (v := ?_) rfl (by kernel_rfl) (by kernel_rfl) (by kernel_rfl) (by kernel_rfl) (by kernel_rfl) (fun _ _ _ h => h) (Or.inl ⟨by rfl, ?_⟩) (fun _ => hHd0) ?_
                      rotate_left
                      · (intro w _; go_simp; (try with_reducible rfl))
                      try simp only [Act.put, List.setIfInBounds_toArray, List.set_cons_zero, List.set_cons_succ, List.getElem_toArray, List.getElem_cons_zero, List.getElem_cons_succ]
                      refine wpAnyL_pure (i := 1) (v := ?_) rfl (by kernel_rfl) (by kernel_rfl) (by kernel_rfl) (by kernel_rfl) (by kernel_rfl) (fun _ _ _ h => h) (Or.inl ⟨by rfl, ?_⟩) (fun _ => hHd0) ?_
                      rotate_left
                      · (intro w _; go_simp; (try with_reducible rfl))
                      try simp only [Act.put, List.setIfInBounds_toArray, List.set_cons_zero, List.set_cons_succ, List.getElem_toArray, List.getElem_cons_zero, List.getElem_cons_succ]
                      refine wpAnyL_pure (i := 2) (v := ?_) rfl (by kernel_rfl) (by kernel_rfl) (by kernel_rfl) (by kernel_rfl) (by kernel_rfl) (fun _ _ _ h => h) (Or.inl ⟨by rfl, ?_⟩) (fun _ => hHd0) ?_
                      rotate_left
                      · (intro w _; go_simp; (try with_reducible rfl))
                      try simp only [Act.put, List.setIfInBounds_toArray, List.set_cons_zero, List.set_cons_succ, List.getElem_toArray, List.getElem_cons_zero, List.getElem_cons_succ]
                      refine wpAnyL_pure (i := 3) (v := ?_) rfl (by kernel_rfl) (by kernel_rfl) (by kernel_rfl) (by kernel_rfl) (by kernel_rfl) (fun _ _ _ h => h) (Or.inl ⟨by rfl, ?_⟩) (fun _ => hHd0) ?_
                      rotate_left
                      · (intro w _; go_simp; (try with_reducible rfl))
                      try simp only [Act.put, List.setIfInBounds_toArray, List.set_cons_zero, List.set_cons_succ, List.getElem_toArray, List.getElem_cons_zero, List.getElem_cons_succ]
                      refine wpAnyL_take (i := 4) (v := ?_) rfl (by kernel_rfl) (by kernel_rfl) (by kernel_rfl) (by kernel_rfl) (by kernel_rfl) (fun _ _ _ h => h) (Or.inl ⟨by rfl, ?_⟩) hHd0 ?_
                      rotate_left
                      · (intro w hSw; (try dsimp only at hSw); go_simp; (try with_reducible rfl))
                      try simp only [Act.put, List.setIfInBounds_toArray, List.set_cons_zero, List.set_cons_succ, List.getElem_toArray, List.getElem_cons_zero, List.getElem_cons_succ]
                      refine wpAnyL_take (i := 5) (v := ?_) rfl (by kernel_rfl) (by kernel_rfl) (by kernel_rfl) (by kernel_rfl) (by kernel_rfl) (fun _ _ _ h => h) (Or.inl ⟨by rfl, ?_⟩) hHd0 ?_
                      rotate_left
                      · (intro w hSw; (try dsimp only at hSw); go_simp; (try with_reducible rfl))
                      try simp only [Act.put, List.setIfInBounds_toArray, List.set_cons_zero, List.set_cons_succ, List.getElem_toArray, List.getElem_cons_zero, List.getElem_cons_succ]
                      refine wpAnyL_ready (rs := [6]) (by kernel_rfl) (by simp) ?_
                      refine (AllReadyL.cons rfl (fun K hK => ?_) AllReadyL.nil)
                      go_simp
                      refine hK.out _ _ (by exact ⟨(((Fr.refl [] wc).drew).alloc _).cell y3 (by simp), (((Fr.refl [] wc).drew).alloc _).cell z0 (by simp), (((Fr.refl [] wc).drew).alloc _).cell z1 (by simp)⟩) (fun hHd1 => ?_)
                      clear hK K hHd0
                      try simp only [Act.put, List.setIfInBounds_toArray, List.set_cons_zero, List.set_cons_succ, List.getElem_toArray, List.getElem_cons_zero, List.getElem_cons_succ]
                      refine wpAnyL_ready (rs := [7]) (by kernel_rfl) (by simp) ?_
                      refine (AllReadyL.cons rfl (fun K hK => ?_) AllReadyL.nil)
                      have hfA : Fr [] wc (wc.drew.alloc (.cells #[.bool false, .slice (some ⟨gx, 0, none⟩) d.length cap] 86)) := ((Fr.refl [] wc).drew).alloc _
                      have HH5 := Lib.hid (HGX.out.keep hfA)
                      have HY5 : Hid ((wc.drew.alloc (.cells #[.bool false, .slice (some ⟨gx, 0, none⟩) d.length cap] 86)).ownsRow w.heap.size 5 1 (RI.v ⟨false, some ⟨gx, 0, none⟩, cap, d⟩) d.length (d.map B8)) := Lib.hid (own_fr (own_base HOWN.out HFR.out.size) hfA (by simp))
                      have HFA := Lib.hid hfA
                      have HBB : Hid (w.heap.size ≤ (wc.drew.alloc (.cells #[.bool false, .slice (some ⟨gx, 0, none⟩) d.length cap] 86)).heap.size) := Lib.hid (by have := HFR.out.size; have := HFX.out.size; simp; omega)
                      clear hfA
                      refine step_appS rfl (.tmp 125) (.tmp 127) 82 rfl w.heap.size 86 (.agg #[.bool false, .slice none 0 0]) 2 32 Tryd.underlying82 infoRI rfl (by decide) (.slice va X.length vc) X.length (riCells X) (by simp [Act.eval, Act.put]) HH5.out.recs.row (some ⟨wc.heap.size, 0, none⟩) 1 1 [.bool false, .slice (some ⟨gx, 0, none⟩) d.length cap] (by simp [Act.eval, Act.put]) rfl (bx_news2 (show (wc.drew.alloc _).heap[wc.heap.size]? = _ from heap_alloc_new wc.drew _)) (fun h => by cases h) (by simp [Value.oneCell']) (by unfold maxLen; omega) (by omega) HBB.out ?_
                      intro v' w6 happ
                      obtain ⟨va2, vc2, rfl⟩ := own_slR happ.own
                      have hra := MFH.app (y := ⟨false, some ⟨gx, 0, none⟩, cap, d⟩) (o := none) HH5.out HY5.out happ (fun g hg e => by
                        have h1 : gx = g := by simpa [RI.v, Value.ownBlock] using hg
                        have := (own_lt HG.out.recs.row e).2
                        have := HGXB.out
                        omega) HPO.out (by show T.length < 65536; have := HTL.out; have := HSS.out; omega) (fun e h => by cases h)
                      have HRA := Lib.hid hra
                      have z1 : w6.heap[F]? = some (.cells #[.int .i64 kd, .int .i64 vr, .int .i64 S, .slice va X.length vc] 84) := (app_frZ happ).obj HH5.out.obj (fun hm => HH5.out.ne (by simpa using hm))
                      obtain ⟨z10, z11, z12, z13⟩ := four z1
                      have z1f := frozen_of_row _ _ 3 _ _ z1
                      have HBN : bx ∉ (Value.slice va X.length vc).ownBlock.toList := fun hm => by
                        have := (own_lt HG.out.recs.row (show (Value.slice va X.length vc).ownBlock = some bx by simpa using hm)).2
                        have := HBX.out
                        omega
                      obtain ⟨z60, z61⟩ := duo ((app_frZ happ).obj (HFA.out.obj HROW.out (by simp)) HBN)
                      clear hra happ z1 HBN
                      refine hK.out _ _ (by exact ⟨z13, z60, z61⟩) (fun hHd2 => ?_)
                      clear hK K hHd1
                      try simp only [Act.put, List.setIfInBounds_toArray, List.set_cons_zero, List.set_cons_succ, List.getElem_toArray, List.getElem_cons_zero, List.getElem_cons_succ]
                      refine wpAnyL_pure (i := 8) (v := ?_) rfl (by kernel_rfl) (by kernel_rfl) (by kernel_rfl) (by kernel_rfl) (by kernel_rfl) (fun _ _ _ h => h) (Or.inl ⟨by rfl, ?_⟩) (fun _ => hHd2) ?_
                      rotate_left
                      · (intro w _; go_simp; (try with_reducible rfl))
                      try simp only [Act.put, List.setIfInBounds_toArray, List.set_cons_zero, List.set_cons_succ, List.getElem_toArray, List.getElem_cons_zero, List.getElem_cons_succ]
                      refine wpAnyL_pure (i := 9) (v := ?_) rfl (by kernel_rfl) (by kernel_rfl) (by kernel_rfl) (by kernel_rfl) (by kernel_rfl) (fun _ _ _ h => h) (Or.inl ⟨by rfl, ?_⟩) (fun _ => hHd2) ?_
                      rotate_left
                      · (intro w _; go_simp; (try with_reducible rfl))
                      try simp only [Act.put, List.setIfInBounds_toArray, List.set_cons_zero, List.set_cons_succ, List.getElem_toArray, List.getElem_cons_zero, List.getElem_cons_succ]
                      refine wpAnyL_ready (rs := [10]) (by kernel_rfl) (by simp) ?_
                      refine (AllReadyL.consLate rfl (by kernel_rfl) (fun K hK => ?_) AllReadyL.nil)
                      go_simp
                      refine hK.out _ _ ?_
                      clear hK K hHd2
                      try simp only [Act.put, List.setIfInBounds_toArray, List.set_cons_zero, List.set_cons_succ, List.getElem_toArray, List.getElem_cons_zero, List.getElem_cons_succ]
                      refine wpAnyL_done (by kernel_rfl) ?_ _
                      go_wp2
                      obtain ⟨q1, q2, -⟩ := HRA.out
                      go_roundw
                      case rel =>
                        refine ⟨k + 1, _, _, _, by omega, by go_num, q1, by simp [HTL.out], HSTA.out, (HFR.out.trans (HFX.out.trans HFA.out)).next q2 ?_⟩
                        intro i hi hlt
                        have := (HG.out.lt i hi).1
                        omega
                      case measure => simp [intOf] <;> omega

          · obtain rfl : k = M := by omega
            have hki : ¬ (k : Int) < (k : Int) := by omega
            have HE : Hid (openB b = .ok (kd, vr, S, T)) := Lib.hid (by
              rw [HOP.out, hrd, Nat.sub_self]
              show fileOf kd vr S (.ok (T ++ [])) = _
              rw [List.append_nil]
              rfl)
            clear hrd
            go_wp2
            go_ret2
            exact .inr ⟨kd, vr, S, T, F, _, HE.out, rfl, ⟨_, _, HG.out, rfl⟩, HFR.out⟩
      · have hE : hdE b = 92 := by rw [HE3.out, if_pos (.inr m7)]
        have HE : Hid (openB b = .error 92) := Lib.hid (by rw [HOE.out (by rw [hE]; decide), hE])
        have m7i : (((N : Int)) != (b.length : Int) - 16) = true := by rw [bne_iff_ne]; have := H16.out; omega
        clear hE
        go_wp2
        go_ret2
        exact .inl ⟨92, HE.out, rfl, HFW.out.trans HF3.out⟩
end Go.Proofs.YtlckhfjkdahfpaaDoor
