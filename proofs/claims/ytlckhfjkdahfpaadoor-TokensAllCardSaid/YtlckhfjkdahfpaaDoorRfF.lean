/- Record files: Bytes. -/
import Derived.Test.YtlckhfjkdahfpaaDoorRfE
import Derived.Test.YtlckhfjkdahfpaaDoorFrC
namespace Go.Proofs.YtlckhfjkdahfpaaDoor
open Go.RowKit
attribute [local go_sem ↓] Go.wp_at_zero Go.wp_at_succ
/-- a Writer in use, beside blocks that are made later -/
structure WtrG (G : List Nat) (w0 w : World) (p : Nat) (l : List UInt8) : Prop where
  ex : ∃ v, w.heap[p]? = some (.cells #[v] 121) ∧ w.ownsRow w0.heap.size 5 1 v l.length (l.map B8) ∧ v.ownBlock ≠ some p ∧ ∀ g ∈ G, v.ownBlock ≠ some g
  lo : w0.heap.size ≤ p
  fr : Fr [] w0 w
  off : ∀ g ∈ G, g ≠ p ∧ g < w.heap.size
theorem Wtr.toG {G : List Nat} {w0 w w1 : World} {p : Nat} {l : List UInt8} (h : Wtr w0 w p l) (hf : Fr [] w w1) (hG : ∀ g ∈ G, w.heap.size ≤ g ∧ g < w1.heap.size) : WtrG G w0 w1 p l := by
  obtain ⟨v, h1, h2, h3⟩ := h.ex
  refine ⟨⟨v, hf.obj h1 (by simp), own_fr h2 hf (by simp), h3, fun g hg e => ?_⟩, h.lo, h.fr.trans hf, fun g hg => ⟨?_, (hG g hg).2⟩⟩
  · have := (own_lt h2 e).2
    have := (hG g hg).1
    omega
  · have := (Array.getElem?_eq_some_iff.1 h1).1
    have := (hG g hg).1
    omega
theorem WtrG.toW {G : List Nat} {w0 w : World} {p : Nat} {l : List UInt8} (h : WtrG G w0 w p l) : Wtr w0 w p l := by
  obtain ⟨v, h1, h2, h3, _⟩ := h.ex
  exact ⟨⟨v, h1, h2, h3⟩, h.lo, h.fr⟩
theorem WtrG.still {G : List Nat} {w0 w w' : World} {p : Nat} {l : List UInt8} (h : WtrG G w0 w p l) (hf : Fr [] w w') : WtrG G w0 w' p l := by
  obtain ⟨v, h1, h2, h3, h4⟩ := h.ex
  exact ⟨⟨v, hf.obj h1 (by simp), own_fr h2 hf (by simp), h3, h4⟩, h.lo, h.fr.trans hf, fun g hg => ⟨(h.off g hg).1, Nat.lt_of_lt_of_le (h.off g hg).2 hf.size⟩⟩
theorem WtrG.puts {G : List Nat} {w0 w w' : World} {p : Nat} {v v' : Value} {l l' : List UInt8} (h1 : w.heap[p]? = some (.cells #[v] 121)) (h2 : w.ownsRow w0.heap.size 5 1 v l.length (l.map B8)) (h3 : v.ownBlock ≠ some p) (h4 : ∀ g ∈ G, v.ownBlock ≠ some g) (hlo : w0.heap.size ≤ p) (hfr : Fr [] w0 w) (hoff : ∀ g ∈ G, g ≠ p ∧ g < w.heap.size)
    (hp : Puts w0.heap.size w w' p v v' l') : WtrG G w0 w' p l' ∧ ∃ T, Fr T w w' ∧ ∀ g ∈ G, g ∉ T := by
  have hW := Wtr.puts hlo hfr h1 h2 h3 hp
  obtain ⟨u, a1, a2, a3⟩ := hW.ex
  have hu : u = v' := by
    have := hp.obj
    rw [a1] at this
    simpa using this
  subst hu
  refine ⟨⟨⟨u, a1, a2, a3, fun g hg e => ?_⟩, hlo, hW.fr, fun g hg => ⟨(hoff g hg).1, Nat.lt_of_lt_of_le (hoff g hg).2 hp.fr.size⟩⟩, _, hp.fr, fun g hg hm => ?_⟩
  · rcases hp.blk with hb | ⟨g', hb, hg'⟩
    · exact h4 g hg (hb ▸ e)
    · rw [hb] at e
      have := Option.some.inj e
      have := (hoff g hg).2
      omega
  · rcases List.mem_cons.1 hm with hm | hm
    · exact (hoff g hg).1 hm
    · exact h4 g hg (by simpa using hm)
theorem NumG (G : List Nat) (w0 w : World) (p : Nat) (l : List UInt8) (wd : Nat) (z : Int) (h : WtrG G w0 w p l) (hw : Wd wd) (h0 : 0 ≤ z) (h1 : z < 18446744073709551616) (hroom : l.length ≤ 140737488351300) :
    Calls Tryd.prog 60 #[.pointer (some ⟨p, 0, none⟩), .int .i64 wd, .int .u64 z] w fun e w' => e = .returned (.tuple #[]) ∧ WtrG G w0 w' p (l ++ by8 wd z.toNat) ∧ ∃ T, Fr T w w' ∧ ∀ g ∈ G, g ∉ T := by
  obtain ⟨v, a, b, c, d⟩ := h.ex
  exact (Num_int w0.heap.size p v l wd z w a b c h.fr.size hw h0 h1 hroom).mono fun e w' ⟨he, v', hp⟩ => ⟨he, WtrG.puts a b c d h.lo h.fr h.off hp⟩
theorem RawG (G : List Nat) (w0 w : World) (p : Nat) (l : List UInt8) (a : Option Addr) (cap : Nat) (m : List UInt8) (h : WtrG G w0 w p l) (hb : Bytes w a m) (hnone : a = none → cap = 0) (hroom : l.length + m.length ≤ 140737488355328) :
    Calls Tryd.prog 63 #[.pointer (some ⟨p, 0, none⟩), .slice a m.length cap] w fun e w' => e = .returned (.tuple #[]) ∧ WtrG G w0 w' p (l ++ m) ∧ ∃ T, Fr T w w' ∧ ∀ g ∈ G, g ∉ T := by
  obtain ⟨v, x, y, z, u⟩ := h.ex
  exact (Raw_any w0.heap.size p v l a cap m w x y z h.fr.size hb hnone hroom).mono fun e w' ⟨he, v', hp⟩ => ⟨he, WtrG.puts x y z u h.lo h.fr h.off hp⟩
theorem magic_len : magicB.length = 4 := rfl
theorem magic_str : (⟨#[83, 82, 69, 67]⟩ : ByteArray) = ⟨magicB.toArray⟩ := rfl
theorem bodyB_take (sz : Nat) (R : Recs) (k : Nat) (o : Option (List UInt8)) (h : R[k]? = some o) : bodyB sz (R.take (k + 1)) = bodyB sz (R.take k) ++ recB sz o := by
  rw [List.take_add_one, h, bodyB_append]
  congr 1
  show bodyB sz [o] = _
  rw [bodyB_cons, bodyB_nil, List.append_nil]
theorem bodyB_take_len {sz : Nat} {R : Recs} (h : Sized sz R) (k : Nat) : (bodyB sz (R.take k)).length ≤ R.length * sz := by
  rw [bodyB_length (R := R.take k) fun d hd => h d (List.mem_of_mem_take hd), List.length_take]
  exact Nat.mul_le_mul_right _ (by omega)
set_option maxRecDepth 100000 in
set_option maxHeartbeats 1600000 in
theorem Bytes_F (B : Nat) (bs : List Nat) (w : World) (p : Nat) (s : RFS) (h : RF B bs w p s) (hn : Nib w) :
    Calls Tryd.prog 39 #[.pointer (some ⟨p, 0, none⟩)] w fun e w' => ∃ v, e = .returned v ∧ Fresh w.heap.size w w' v (fileB s.kd s.vr s.sz s.R) := by
  obtain ⟨v, X, h, rfl⟩ := h
  obtain ⟨a, c, rfl, -⟩ := h.recs.sl
  have hok := h.ok
  have hkd := hok.kd
  have hvr := hok.vr
  have hlo := hok.lo
  have hhi := hok.hi
  have hXl : X.length ≤ 65536 := by rw [h.len]; exact hok.len
  have HXR := Lib.hid h.len
  have HN := Lib.hid hn
  have H := Lib.hid h
  have q1 : IntKind.u64.wrap (s.kd : Int) = (s.kd : Int) := wrapU_int _ (by omega) (by omega)
  have q2 : IntKind.u64.wrap (s.vr : Int) = (s.vr : Int) := wrapU_int _ (by omega) (by omega)
  have q3 : IntKind.u64.wrap (s.sz : Int) = (s.sz : Int) := wrapU_int _ (by omega) (by omega)
  have q4 : IntKind.u64.wrap (X.length : Int) = (X.length : Int) := wrapU_int _ (by omega) (by omega)
  clear h hok hn
  go_enter Tryd.func39, Tryd.ntmps39
  go_wp2_with fail
  refine (NewW w).mono ?_
  rintro e w1 ⟨rfl, ht⟩
  have HT1 := Lib.hid ht
  clear ht
  generalize w.heap.size = q at HT1 ⊢
  go_wp2_with fail
  refine (StrW w w1 q [] magicB HT1.out (by simp only [List.length_nil, magic_len]; omega)).mono ?_
  rintro e w2 ⟨rfl, ht⟩
  have HT2 := Lib.hid ht
  obtain ⟨x0, x1, x2, x3, x4, x5⟩ := six (H.out.keep ht.fr).obj
  clear ht
  go_wp2_with fail
  refine (NumW w w2 q _ 1 (s.kd : Int) HT2.out (by unfold Wd; omega) (by omega) (by omega) (by simp only [List.length_append, by8_length, List.length_nil, magic_len]; omega)).mono ?_
  rintro e w3 ⟨rfl, ht⟩
  have HT3 := Lib.hid ht
  clear x0 x1 x2 x3 x4 x5
  obtain ⟨x0, x1, x2, x3, x4, x5⟩ := six (H.out.keep ht.fr).obj
  clear ht
  go_wp2_with fail
  refine (NumW w w3 q _ 1 (s.vr : Int) HT3.out (by unfold Wd; omega) (by omega) (by omega) (by simp only [List.length_append, by8_length, List.length_nil, magic_len]; omega)).mono ?_
  rintro e w4 ⟨rfl, ht⟩
  have HT4 := Lib.hid ht
  clear x0 x1 x2 x3 x4 x5
  obtain ⟨x0, x1, x2, x3, x4, x5⟩ := six (H.out.keep ht.fr).obj
  clear ht
  go_wp2_with fail
  refine (NumW w w4 q _ 2 (s.sz : Int) HT4.out (by unfold Wd; omega) (by omega) (by omega) (by simp only [List.length_append, by8_length, List.length_nil, magic_len]; omega)).mono ?_
  rintro e w5 ⟨rfl, ht⟩
  have HT5 := Lib.hid ht
  clear x0 x1 x2 x3 x4 x5
  obtain ⟨x0, x1, x2, x3, x4, x5⟩ := six (H.out.keep ht.fr).obj
  clear ht
  go_wp2_with fail
  refine (NumW w w5 q _ 4 (X.length : Int) HT5.out (by unfold Wd; omega) (by omega) (by omega) (by simp only [List.length_append, by8_length, List.length_nil, magic_len]; omega)).mono ?_
  rintro e w6 ⟨rfl, ht⟩
  have HT6 := Lib.hid ht
  clear x0 x1 x2 x3 x4 x5
  obtain ⟨x0, x1, x2, x3, x4, x5⟩ := six (H.out.keep ht.fr).obj
  clear ht
  go_wp2_with fail
  have hh : [] ++ magicB ++ by8 1 (s.kd : Int).toNat ++ by8 1 (s.vr : Int).toNat ++ by8 2 (s.sz : Int).toNat ++ by8 4 (X.length : Int).toNat = h12 s.kd s.vr s.sz s.R.length := by
    simp only [Int.toNat_natCast, HXR.out, h12, List.nil_append, List.append_assoc]
  have HT6 := Lib.hid (hh ▸ HT6.out)
  clear hh
  have HHD : Hid (headB s.kd s.vr s.sz s.R.length = h12 s.kd s.vr s.sz s.R.length ++ sm4 (h12 s.kd s.vr s.sz s.R.length)) := Lib.hid rfl
  have HHL := Lib.hid (h12_length s.kd s.vr s.sz s.R.length)
  generalize h12 s.kd s.vr s.sz s.R.length = HH at HT6 HHD HHL
  refine (BytesW w w6 q HH HT6.out (by have := HHL.out; omega)).mono ?_
  rintro e w7 ⟨u, rfl, hg⟩
  obtain ⟨g, cap, rfl, _, _, hbu, hfu⟩ := (hg.fresh (by have := HHL.out; omega)).bytes
  have HT7 := Lib.hid (HT6.out.still hfu)
  have HBU := Lib.hid hbu
  clear hg hbu hfu x0 x1 x2 x3 x4 x5
  go_wp2_with fail
  refine (sum_any (some ⟨g, 0, none⟩) HH.length cap HH w7 rfl (by have := HHL.out; omega) HBU.out (nib_keep HN.out HT7.out.fr)).mono ?_
  rintro e w8 ⟨rfl, rfl⟩
  have q5 := wrapU_I32 (P.update 0#32 HH)
  go_wp2_with fail
  refine (NumW w w7 q HH 4 (I32 (P.update 0#32 HH)) HT7.out (by unfold Wd; omega) (I32_lo _) (by have := I32_hi (P.update 0#32 HH); omega) (by have := HHL.out; omega)).mono ?_
  rintro e w8 ⟨rfl, ht⟩
  rw [I32_toNat] at ht
  have HT8 : Hid (Wtr w w8 q (headB s.kd s.vr s.sz s.R.length)) := Lib.hid (by rw [HHD.out]; exact ht)
  clear ht q5 HHD HHL HT6 HT7 HT1 HT2 HT3 HT4 HT5 HBU
  have hr8 := H.out.keep HT8.out.fr
  have HR8 := Lib.hid hr8
  obtain ⟨x0, x1, x2, x3, x4, x5⟩ := six hr8.obj
  have hmk := make8 s.sz (by omega)
  clear hr8
  obtain ⟨w9, hw9⟩ : ∃ w9, w9 = w8.alloc (.cells ((zs s.sz).map B8).toArray 5) := ⟨_, rfl⟩
  go_upto_region 9 with fail
  rw [← hw9]
  have hf9 : Fr [] w8 w9 := by rw [hw9]; exact (Fr.refl _ _).alloc _
  have ho9 : w9.ownsRow w8.heap.size 5 1 (.slice (some ⟨w8.heap.size, 0, none⟩) s.sz s.sz) s.sz ((zs s.sz).map B8) := by rw [hw9]; exact own_mk w8 s.sz (by omega)
  have hg9 : w8.heap.size < w9.heap.size := by rw [hw9]; simp
  have HF9 := Lib.hid hf9
  have HO9 := Lib.hid ho9
  have HT9 : Hid (WtrG [w8.heap.size] w w9 q (headB s.kd s.vr s.sz s.R.length)) := Lib.hid (HT8.out.toG hf9 (by intro i hi; simp at hi; omega))
  generalize w8.heap.size = g at HO9 HT9 ⊢
  clear hw9 hf9 ho9 hmk x0 x1 x2 x3 x4 x5 hg9
  obtain ⟨x0, x1, x2, x3, x4, x5⟩ := six (H.out.keep HT9.out.fr).obj
  go_wp2_with fail
  go_loopw [55] (fun i wr => ∃ k : Nat, k ≤ X.length ∧ i = .int .i64 k ∧ WtrG [g] w wr q (headB s.kd s.vr s.sz s.R.length ++ bodyB s.sz (s.R.take k)) ∧ wr.ownsRow 0 5 1 (.slice (some ⟨g, 0, none⟩) s.sz s.sz) s.sz ((zs s.sz).map B8)) (fun i _ => X.length - (intOf i).toNat)
  case atStart => exact ⟨0, by omega, rfl, by simpa [bodyB_nil] using HT9.out, own_base HO9.out (Nat.zero_le _)⟩
  case round =>
    obtain ⟨k, hk, rfl, ht, ho⟩ := hrel
    clear x0 x1 x2 x3 x4 x5
    by_cases hlt : k < X.length
    · obtain ⟨ga, rfl, -, -⟩ := (H.out.keep ht.fr).recs.pos (by omega)
      obtain ⟨k1, -⟩ := (H.out.keep ht.fr).recs.cell hlt
      have hki : (k : Int) < (X.length : Int) := by omega
      have hki0 : (0 : Int) ≤ (k : Int) := by omega
      obtain ⟨x, hx⟩ : ∃ x, x = X[k] := ⟨_, rfl⟩
      rw [← hx] at k1
      have hm : x ∈ X := by rw [hx]; exact List.getElem_mem _
      have ho2 : s.R[k]? = some x.o := by rw [← H.out.opt, List.getElem?_map, List.getElem?_eq_getElem hlt, hx]; rfl
      have HBT := Lib.hid (bodyB_take s.sz s.R k x.o ho2)
      have hbl := bodyB_take_len H.out.ok.dat k
      have hmul : s.R.length * s.sz ≤ 65536 * 255 := Nat.mul_le_mul (by rw [← HXR.out]; exact hXl) hhi
      obtain ⟨BL, hBL⟩ : ∃ BL, BL = headB s.kd s.vr s.sz s.R.length ++ bodyB s.sz (s.R.take k) := ⟨_, rfl⟩
      have HBL := Lib.hid (show BL.length ≤ 20000000 by rw [hBL, List.length_append, headB_length]; omega)
      have HBQ := Lib.hid (show headB s.kd s.vr s.sz s.R.length ++ bodyB s.sz (s.R.take (k + 1)) = BL ++ recB s.sz x.o by rw [HBT.out, hBL, List.append_assoc])
      rw [← hBL] at ht
      have HT := Lib.hid ht
      have HO := Lib.hid ho
      have HX := Lib.hid hm
      have qE := eql_nil8
      clear hx ho2 hbl hmul hBL ht ho hm
      cases ha : x.a with
      | none =>
        obtain rfl := H.out.recs.isNil HX.out ha
        replace k1 : wr.cell? ⟨ga, k, none⟩ = some (.slice none 0 0) := k1
        clear ha
        go_wp2_with fail
        have hR := RawG [g] w wr q BL (some ⟨g, 0, none⟩) s.sz (zs s.sz) HT.out (by have h := HO.out; have h2 : wr.ownsRow 0 5 1 (.slice (some ⟨g, 0, none⟩) (zs s.sz).length s.sz) (zs s.sz).length ((zs s.sz).map B8) := (by rw [zs_length]; exact h); exact own_bytes h2) (fun h => by cases h) (by have := HBL.out; rw [zs_length]; omega)
        rw [zs_length] at hR
        refine hR.mono ?_
        rintro e w10 ⟨rfl, ht, T, hfT, hgT⟩
        have HT10 := Lib.hid ht
        have HO10 := Lib.hid (own_fr HO.out hfT (by intro i hi; have e : g = i := by simpa [Value.ownBlock] using hi
                                                    subst e; exact hgT _ (by simp)))
        clear hR ht hfT hgT
        go_wp2
        go_roundw
        case rel =>
          refine ⟨k + 1, by omega, by go_num, ?_, HO10.out⟩
          rw [HBQ.out]
          exact HT10.out
        case measure => simp [intOf] <;> omega
      | some ad =>
        have hxo : x.o = some x.d := by unfold LI.o; rw [ha]
        obtain ⟨gd, cd, hxe, -, -⟩ := H.out.recs.isSome HX.out hxo
        obtain ⟨d, hd⟩ : ∃ d, d = x.d := ⟨_, rfl⟩
        have hdl : d.length ≤ 255 := by
          have h1 := H.out.ok.dat d (by rw [← H.out.opt, hd, ← hxo]; exact List.mem_map.2 ⟨x, HX.out, rfl⟩)
          omega
        have hk1 : wr.cell? ⟨ga, k, none⟩ = some (.slice (some ⟨gd, 0, none⟩) d.length cd) := by rw [k1, hxe, hd]; rfl
        have HXV : Hid (x = ⟨some ⟨gd, 0, none⟩, cd, d⟩) := Lib.hid (by rw [hd]; exact hxe)
        have HXO : Hid (x.o = some d) := Lib.hid (by rw [hd]; exact hxo)
        clear k1 ha hxo hxe hd
        go_wp2_with fail
        refine (NumG [g] w wr q BL 1 1 HT.out (by unfold Wd; omega) (by omega) (by omega) (by have := HBL.out; omega)).mono ?_
        rintro e w10 ⟨rfl, ht, T, hfT, hgT⟩
        have HT10 := Lib.hid ht
        have HO10 := Lib.hid (own_fr HO.out hfT (by intro i hi; have e : g = i := by simpa [Value.ownBlock] using hi
                                                    subst e; exact hgT _ (by simp)))
        have hbd : Bytes w10 (some ⟨gd, 0, none⟩) d := by
          have h := (H.out.keep ht.fr).recs.dat x HX.out
          rw [HXV.out] at h
          exact own_bytes h
        have HBD := Lib.hid hbd
        clear ht hfT hgT hbd hk1
        go_wp2_with fail
        refine (RawG [g] w w10 q _ (some ⟨gd, 0, none⟩) cd d HT10.out HBD.out (fun h => by cases h) (by have := HBL.out; simp only [List.length_append, by8_length]; omega)).mono ?_
        rintro e w11 ⟨rfl, ht, T, hfT, hgT⟩
        have HT11 := Lib.hid ht
        have HO11 := Lib.hid (own_fr HO10.out hfT (by intro i hi; have e : g = i := by simpa [Value.ownBlock] using hi
                                                      subst e; exact hgT _ (by simp)))
        clear ht hfT hgT
        go_wp2
        go_roundw
        case rel =>
          refine ⟨k + 1, by omega, by go_num, ?_, HO11.out⟩
          rw [HBQ.out, HXO.out]
          have h := HT11.out
          rw [List.append_assoc, show by8 1 (1 : Int).toNat ++ d = recB s.sz (some d) by rw [by8_1]; rfl] at h
          exact h
        case measure => simp [intOf] <;> omega
    · obtain rfl : k = X.length := by omega
      have hmul : s.R.length * s.sz ≤ 65536 * 255 := Nat.mul_le_mul (by rw [← HXR.out]; exact hXl) hhi
      have hfull : headB s.kd s.vr s.sz s.R.length ++ bodyB s.sz (s.R.take X.length) = fileB s.kd s.vr s.sz s.R := by rw [List.take_of_length_le (by rw [HXR.out]; exact Nat.le_refl _)]; rfl
      have hfl := fileB_length (kd := s.kd) (vr := s.vr) H.out.ok.dat
      rw [hfull] at ht
      have HT := Lib.hid ht.toW
      have HFL := Lib.hid (show (fileB s.kd s.vr s.sz s.R).length ≤ 20000000 ∧ 0 < (fileB s.kd s.vr s.sz s.R).length by omega)
      clear ht ho hmul hfull hfl
      obtain ⟨FB, hFB⟩ : ∃ FB, FB = fileB s.kd s.vr s.sz s.R := ⟨_, rfl⟩
      rw [← hFB] at HT HFL
      have HFB := Lib.hid hFB
      clear hFB
      go_wp2_with fail
      refine (BytesW w wr q FB HT.out (by have := HFL.out; omega)).mono ?_
      rintro e w10 ⟨u, rfl, hg⟩
      have HG := Lib.hid ((hg.fresh HFL.out.2).base HT.out.fr HT.out.fr.size)
      clear hg
      go_wp2
      go_ret
      refine ⟨u, rfl, ?_⟩
      rw [← HFB.out]
      exact HG.out
end Go.Proofs.YtlckhfjkdahfpaaDoor
