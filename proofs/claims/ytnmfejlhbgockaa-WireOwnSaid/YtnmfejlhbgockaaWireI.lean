/- The walk of the law WireOwn. -/
import Derived.Test.YtnmfejlhbgockaaWireH
namespace Go.Proofs.Ytnmfejlhbgockaa
open Go.RowKit
attribute [local go_sem] mulU256 wrapU_nat wrapU_I8 wrapU addU mulU remU divU byteU shrU I8_ne I8_eq U_eq U_ne

theorem U7 : U 7 = 7 := by rw [U_lt _ (by decide)]; rfl
theorem U8' : U 8 = 8 := by rw [U_lt _ (by decide)]; rfl
theorem U3 : U 3 = 3 := by rw [U_lt _ (by decide)]; rfl
theorem Ia1 : I8 161 = 161 := by decide +kernel
theorem Ib2 : I8 178 = 178 := by decide +kernel
theorem Ic3 : I8 195 = 195 := by decide +kernel
theorem by81 (n : Nat) : by8 1 n = [UInt8.ofNat n] := by simp [by8]

set_option maxHeartbeats 1600000 in
theorem wireOwn_walk (a : Option Addr) (c : Nat) (l : List UInt8) (w : World) (hl : l.length ≤ 140737488351232) (hb : Bytes w a l) :
    Calls Try.prog 5 #[.slice a l.length c] w fun e w' => e = .returned (.bool true) ∧ Fr [] w w' := by
  go_enter Try.func5, Try.ntmps5
  go_wp2_with fail
  refine (speaks_wire _).mono ?_
  rintro e w1 ⟨rfl, hf1⟩
  go_wp2_with fail
  refine (NewWriter_any w1).mono ?_
  rintro e w2 ⟨rfl, ho2, hf2, hlt2⟩
  have S2 := ((Sep.start w).still hf1).box hf2 (Nat.le_refl _) hlt2
  generalize w1.heap.size = p at ho2 hlt2 S2 ⊢
  go_wp2_with fail
  refine (copy_any a c l w2 (by omega) (hb.keep S2.fr)).mono ?_
  rintro e w3 ⟨v, rfl, hfr⟩
  obtain ⟨g, cap, rfl, hg, hlt, hb3, hf3⟩ := hfr.bytes
  have S3 := S2.still hf3
  have S3' := S3.add (v := .slice none 0 0) (l := []) (Fr.refl _ _) (World.ownsRow_nil _ _ _ _)
  have ho3 := hf3.obj ho2 (by simp)
  clear hfr ho2 hf2 hlt2 S2 hg hlt
  go_wp2_with fail
  refine (Raw_any w.heap.size p (.slice none 0 0) [] (some ⟨g, 0, none⟩) cap l w3 ho3 (World.ownsRow_nil _ _ _ _) (by simp [Value.ownBlock]) S3.fr.size hb3 (fun h => by cases h) (by simp; omega)).mono ?_
  rintro e w4 ⟨rfl, v4, hp4⟩
  have S4 := S3'.puts [] [] hp4 (by simp)
  have ho4 := hp4.obj
  rw [List.nil_append] at S4
  clear hp4 hb3 S3 S3' ho3 hf3
  go_wp2_with fail
  have hn := Num_yes w.heap.size p v4 l 1 7 w4 ho4 (S4.own (v4, l) (by simp)) (fun e => S4.pne (v4, l) (by simp) p e (by simp)) S4.fr.size (.inl rfl) (by decide) (by omega)
  rw [U7, by81] at hn
  refine hn.mono ?_
  rintro e w5 ⟨rfl, v5, hp5⟩
  have S5 := S4.puts [] [] hp5 (by simp)
  have ho5 := hp5.obj
  clear hp5 S4 ho4 hn
  go_wp2_with fail
  refine (copy_any a c l w5 (by omega) (hb.keep S5.fr)).mono ?_
  rintro e w6 ⟨v6, rfl, hfr⟩
  have S6 := S5.add hfr.got.2 hfr.got.1
  have ho6 := hfr.got.2.obj ho5 (by simp)
  clear hfr S5 ho5
  have S6a := S6.still ((Fr.refl _ w6).alloc (.cells #[.int .u8 7] 5))
  have ho6a := ((Fr.refl [] w6).alloc (.cells #[.int .u8 7] 5)).obj ho6 (by simp)
  go_wp2_with (at_builtin; refine wpList_apB _ rfl _ _ 22 rfl w.heap.size 5 Try.underlying22 info8 v6 l rfl (S6a.own (v6, l) (by simp)) (some ⟨w6.heap.size, 0, none⟩) 1 1 (lb [7]) rfl rfl (Bytes.lit [7] rfl rfl rfl) (fun h => by cases h) (by omega) S6a.fr.size ?_; intro v7 w7 happ; have S7 := S6a.turn [] [(v5, l ++ [UInt8.ofNat 7])] happ.fr (fun i hi => .inr (by simpa using hi)) happ.own happ.blk; have ho7 := S6a.obj (v := v6) (l := l) (by simp) happ.fr (p := p) (by simp) ho6a; clear happ S6 S6a ho6 ho6a)
  obtain ⟨L, hL⟩ : ∃ L, L = l ++ [UInt8.ofNat 7] := ⟨_, rfl⟩
  have hLl : L.length = l.length + 1 := by rw [hL]; simp
  rw [show l ++ lb [7] = L from hL.symm, ← hL] at S7
  clear hL
  have HLL := Lib.hid hLl; clear hLl
  refine (Bytes_any w.heap.size p v5 L w7 ho7 (S7.own (v5, L) (by simp)) (by have := HLL.out; omega)).mono ?_
  rintro e w8 ⟨vx, rfl, hgot⟩
  have S8 := S7.add hgot.2 hgot.1
  have ho8 := hgot.2.obj ho7 (by simp)
  clear hgot S7 ho7
  go_wp2_with fail
  refine (Bytes_any w.heap.size p v5 L w8 ho8 (S8.own (v5, L) (by simp)) (by have := HLL.out; omega)).mono ?_
  rintro e w9 ⟨vy, rfl, hgot⟩
  have S9 := S8.add hgot.2 hgot.1
  have ho9 := hgot.2.obj ho8 (by simp)
  clear hgot S8 ho8
  go_wp2_with fail
  refine (same_own _ _ vx v7 L w9 (by have := HLL.out; omega) (S9.own (vx, L) (by simp)) (S9.own (v7, L) (by simp))).mono ?_
  rintro e w10 ⟨rfl, hf10⟩
  have S10 := S9.still hf10
  have ho10 := hf10.obj ho9 (by simp)
  clear hf10 S9 ho9
  go_wp2_with fail
  refine (same_own _ _ vy v7 L w10 (by have := HLL.out; omega) (S10.own (vy, L) (by simp)) (S10.own (v7, L) (by simp))).mono ?_
  rintro e w11 ⟨rfl, hf11⟩
  have S11 := S10.still hf11
  have ho11 := hf11.obj ho10 (by simp)
  clear hf11 S10 ho10
  go_wp2_with fail
  have hsp := spoil_any w.heap.size vx L 161 w11 (by have := HLL.out; omega) (S11.own (vx, L) (by simp)) S11.fr.size
  rw [Ia1] at hsp
  refine hsp.mono ?_
  rintro e w12 ⟨rfl, hown12, hf12⟩
  have S12 := S11.turn [(vy, L)] [(v7, L), (v5, L)] (v' := vx) (l' := List.replicate L.length 161) hf12 (fun i hi => .inr (by simpa using hi)) (by simpa using hown12) (.inl rfl)
  have ho12 := S11.obj (v := vx) (l := L) (by simp) hf12 (p := p) (by simp) ho11
  clear hsp hown12 hf12 S11 ho11
  go_wp2_with fail
  refine (same_own _ _ vy v7 L w12 (by have := HLL.out; omega) (S12.own (vy, L) (by simp)) (S12.own (v7, L) (by simp))).mono ?_
  rintro e w13 ⟨rfl, hf13⟩
  have S13 := S12.still hf13
  have ho13 := hf13.obj ho12 (by simp)
  clear hf13 S12 ho12
  go_wp2_with fail
  refine (Bytes_any w.heap.size p v5 L w13 ho13 (S13.own (v5, L) (by simp)) (by have := HLL.out; omega)).mono ?_
  rintro e w14 ⟨vz, rfl, hgot⟩
  have hz14 := hgot.1
  have S14 := S13.still hgot.2
  have ho14 := hgot.2.obj ho13 (by simp)
  clear hgot S13 ho13
  go_wp2_with fail
  refine (same_own _ _ vz v7 L w14 (by have := HLL.out; omega) hz14 (S14.own (v7, L) (by simp))).mono ?_
  rintro e w15 ⟨rfl, hf15⟩
  have S15 := S14.still hf15
  have ho15 := hf15.obj ho14 (by simp)
  clear hf15 S14 ho14 hz14
  go_wp2_with fail
  have hsp := spoil_any w.heap.size vy L 178 w15 (by have := HLL.out; omega) (S15.own (vy, L) (by simp)) S15.fr.size
  rw [Ib2] at hsp
  refine hsp.mono ?_
  rintro e w16 ⟨rfl, hown16, hf16⟩
  have S16 := S15.turn [] [(vx, List.replicate L.length 161), (v7, L), (v5, L)] (v' := vy) (l' := List.replicate L.length 178) hf16 (fun i hi => .inr (by simpa using hi)) (by simpa using hown16) (.inl rfl)
  have ho16 := S15.obj (v := vy) (l := L) (by simp) hf16 (p := p) (by simp) ho15
  clear hsp hown16 hf16 S15 ho15
  go_wp2_with fail
  have hn := Num_yes w.heap.size p v5 L 1 8 w16 ho16 (S16.own (v5, L) (by simp)) (fun e => S16.pne (v5, L) (by simp) p e (by simp)) S16.fr.size (.inl rfl) (by decide) (by have := HLL.out; omega)
  rw [U8', by81] at hn
  refine hn.mono ?_
  rintro e w17 ⟨rfl, v17, hp17⟩
  have S17 := S16.puts [(vy, List.replicate L.length 178), (vx, List.replicate L.length 161), (v7, L)] [] hp17 (by simp)
  have ho17 := hp17.obj
  clear hp17 S16 ho16 hn
  obtain ⟨X, hX⟩ : ∃ X, X = List.replicate L.length (161 : UInt8) := ⟨_, rfl⟩
  have hXl : X.length = L.length := by rw [hX]; simp
  have hX0 : X.getD 0 0 = 161 := by rw [hX]; simp [List.getD, show 0 < L.length by have := HLL.out; omega]
  rw [← hX] at S17
  clear hX
  have HXL := Lib.hid hXl; clear hXl
  obtain ⟨ax, cx, rfl, hbx, _, _, hnx, _⟩ := Bytes.of_own (show w17.ownsRow w.heap.size 5 1 vx X.length (X.map B8) from S17.own (vx, X) (by simp))
  have HNX := Lib.hid hnx; clear hnx
  go_wp2_with fail
  have hset := set_yes ax cx X 1 0 3 w17 (by have := HXL.out; have := HLL.out; omega) HNX.out hbx (.inl rfl) (by have := HXL.out; have := HLL.out; omega) (by decide)
  rw [U3, by81] at hset
  refine hset.mono ?_
  rintro e w18 ⟨vs, rfl, hfs⟩
  have S18 := S17.add hfs.got.2 hfs.got.1
  have ho18 := hfs.got.2.obj ho17 (by simp)
  have hbx18 := hbx.keep hfs.got.2
  clear hfs hset S17 ho17 hbx
  go_wp2_with fail
  have hset := set_yes ax cx X 1 0 3 w18 (by have := HXL.out; have := HLL.out; omega) HNX.out hbx18 (.inl rfl) (by have := HXL.out; have := HLL.out; omega) (by decide)
  rw [U3, by81] at hset
  refine hset.mono ?_
  rintro e w19 ⟨vt, rfl, hft⟩
  have S19 := S18.add hft.got.2 hft.got.1
  have ho19 := hft.got.2.obj ho18 (by simp)
  clear hft hset S18 ho18 hbx18
  obtain ⟨T, hT⟩ : ∃ T, T = put X 0 [UInt8.ofNat 3] := ⟨_, rfl⟩
  have hTl : T.length = L.length := by rw [hT, put_length _ _ _ (by have := HXL.out; have := HLL.out; simp; omega)]; exact HXL.out
  have hT0 : T.getD 0 0 = 3 := by rw [hT]; simp [put, List.getD]
  rw [← hT] at S19
  clear hT
  have HTL := Lib.hid hTl; clear hTl
  go_wp2_with fail
  have hsp := spoil_any w.heap.size vs T 195 w19 (by have := HTL.out; have := HLL.out; omega) (S19.own (vs, T) (by simp)) S19.fr.size
  rw [Ic3] at hsp
  refine hsp.mono ?_
  rintro e w20 ⟨rfl, hown20, hf20⟩
  have S20 := S19.turn [(vt, T)] [(vy, List.replicate L.length 178), (.slice ax X.length cx, X), (v7, L), (v17, L ++ [UInt8.ofNat 8])] (v' := vs) (l' := List.replicate T.length 195) hf20 (fun i hi => .inr (by simpa using hi)) (by simpa using hown20) (.inl rfl)
  have ho20 := S19.obj (v := vs) (l := T) (by simp) hf20 (p := p) (by simp) ho19
  clear hsp hown20 hf20 S19 ho19
  go_wp2_with fail
  refine (Bytes_any w.heap.size p v17 (L ++ [UInt8.ofNat 8]) w20 ho20 (S20.own (v17, L ++ [UInt8.ofNat 8]) (by simp)) (by have := HLL.out; simp; omega)).mono ?_
  rintro e w21 ⟨vb, rfl, hgot⟩
  have S21 := S20.add hgot.2 hgot.1
  clear hgot S20 ho20
  have S21a := S21.still ((Fr.refl _ w21).alloc (.cells #[.int .u8 8] 5))
  go_wp2_with (at_builtin; refine wpList_apB _ rfl _ _ 22 rfl w.heap.size 5 Try.underlying22 info8 v7 L rfl (S21a.own (v7, L) (by simp)) (some ⟨w21.heap.size, 0, none⟩) 1 1 (lb [8]) rfl rfl (Bytes.lit [8] rfl rfl rfl) (fun h => by cases h) (by have := HLL.out; omega) S21a.fr.size ?_; intro v22 w22 happ; have S22 := S21a.turn [(vb, L ++ [UInt8.ofNat 8]), (vt, T), (vs, List.replicate T.length 195), (vy, List.replicate L.length 178), (.slice ax X.length cx, X)] [(v17, L ++ [UInt8.ofNat 8])] happ.fr (fun i hi => .inr (by simpa using hi)) happ.own happ.blk; clear happ S21 S21a)
  refine (same_own _ _ vb v22 (L ++ [UInt8.ofNat 8]) w22 (by have := HLL.out; simp; omega) (S22.own (vb, L ++ [UInt8.ofNat 8]) (by simp)) (S22.own (v22, L ++ [UInt8.ofNat 8]) (by simp [lb]))).mono ?_
  rintro e w23 ⟨rfl, hf23⟩
  have S23 := S22.still hf23
  clear hf23 S22
  obtain ⟨at_, ct, rfl, hbt, _, _, _, _⟩ := Bytes.of_own (show w23.ownsRow w.heap.size 5 1 vt T.length (T.map B8) from S23.own (vt, T) (by simp))
  have hbx := S23.bytes (a := ax) (n := X.length) (cap := cx) (l := X) (by simp)
  obtain ⟨bt, ot, rfl, hct⟩ := hbt.at (by have := HTL.out; have := HLL.out; omega)
  obtain ⟨bx, ox, rfl, hcx⟩ := hbx.at (by have := HXL.out; have := HLL.out; omega)
  have t0 : w23.cell? ⟨bt, ot, none⟩ = some (.int .u8 3) := by have := hct 0 (by have := HTL.out; have := HLL.out; omega); rw [Nat.add_zero, hT0] at this; rw [this]; exact congrArg (fun z => some (Value.int .u8 z)) (show I8 3 = 3 by decide +kernel)
  have x0 : w23.cell? ⟨bx, ox, none⟩ = some (.int .u8 161) := by have := hcx 0 (by have := HXL.out; have := HLL.out; omega); rw [Nat.add_zero, hX0] at this; rw [this]; exact congrArg (fun z => some (Value.int .u8 z)) Ia1
  have FR := S23.fr
  rw [HTL.out, HXL.out]
  have hpos : (0 : Int) < (L.length : Int) := by have := HLL.out; omega
  clear S23 hct hcx hbt hbx
  go_wp2_with fail
  go_ret
  exact ⟨rfl, FR⟩
end Go.Proofs.Ytnmfejlhbgockaa
