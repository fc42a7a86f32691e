/- Tokens: the document's Open. -/
import Derived.Test.YtlckhfjkdahfpaaDoorTkN
import Derived.Test.YtlckhfjkdahfpaaDoorTkI
import Derived.Test.YtlckhfjkdahfpaaDoorMfF
namespace Go.Proofs.YtlckhfjkdahfpaaDoor
open Go.RowKit Go.Maps
attribute [local go_sem ↓] Go.wp_at_zero Go.wp_at_succ
attribute [local go_sem] Oper.semAt_some
/-- what the document's Open gives -/
def OpenQG (w w' : World) (e : Ending) (b : List UInt8) (kd vr : Int) : Prop :=
  (∃ E, openT b kd vr = .error E ∧ e = .returned (.tuple #[.pointer none, .int .i64 E]) ∧ Fr [] w w') ∨
  (∃ N q bs, openT b kd vr = .ok N ∧ wrongB kd vr = false ∧ e = .returned (.tuple #[.pointer (some ⟨q, 0, none⟩), .int .i64 0]) ∧ MT w.heap.size bs w' q kd.toNat vr.toNat N ∧ Fr [] w w')
theorem NOk.snocE {N : Nms} (h : NOk N) (hl : N.length < 200) : NOk (N ++ [[]]) := by
  have hget : ∀ i, (N ++ [[]]).getD i [] = N.getD i [] := fun i => by
    rw [List.getD_eq_getElem?_getD, List.getD_eq_getElem?_getD]
    by_cases hi : i < N.length
    · rw [List.getElem?_append_left hi]
    · rw [List.getElem?_append_right (by omega), List.getElem?_eq_none (l := N) (by omega)]
      cases i - N.length with
      | zero => rfl
      | succ j => rfl
  refine ⟨fun s hs h0 => ?_, fun i j _ _ e h0 => ?_, by rw [List.length_append]; simp; omega⟩
  · rcases List.mem_append.1 hs with h1 | h1
    · exact h.good s h1 h0
    · exact absurd (List.mem_singleton.1 h1) h0
  · rw [hget] at h0
    rw [hget, hget] at e
    exact h.inj i j (getD_ne h0) (getD_ne (e ▸ h0)) e h0
theorem NOk.snoc {N : Nms} (h : NOk N) (hl : N.length < 200) {s : List UInt8} (hg : goodB s = true) (hf : findN N s = none) : NOk (N ++ [s]) := by
  have h1 := h.snocE hl
  have h2 := findN_pad N 1 s
  have h3 := set_pad N 0 s
  rw [List.replicate_zero, List.append_nil] at h3
  rw [← h3]
  exact h1.setK hg (h2.trans hf) (by simp) (pad_get N 1)
theorem MT.base_le {w : World} {q kd vr : Nat} {N : Nms} {bs : List Nat} {B B' : Nat} (h : MT B bs w q kd vr N) (hB : B' ≤ B) : MT B' bs w q kd vr N := by
  obtain ⟨v, h, rfl⟩ := h
  exact ⟨v, ⟨h.obj, own_base h.nms hB, h.ok, Nat.le_trans hB h.bq⟩, rfl⟩
theorem okT_n {d : List UInt8} (h : okT d = true) : (d.getD 0 0).toNat ≤ 40 ∧ (d.drop (1 + (d.getD 0 0).toNat)).any (· != 0) = false ∧ goodB (nmT d) = true := by
  unfold okT at h
  simpa [and_assoc] using h
theorem errT_some {R : Recs} {k : Nat} {d : List UInt8} (h : R[k]? = some (some d)) : errT (upT R k) (R.drop k) = if okT d = false then 110 else if (findN (upT R k) (nmT d)).isSome = true then 7 else errT (upT R (k + 1)) (R.drop (k + 1)) := errT_at h
set_option maxRecDepth 100000 in
set_option maxHeartbeats 6400000 in
theorem Open_Q (a : Option Addr) (c : Nat) (b : List UInt8) (kd vr : Int) (w : World) (hl : b.length ≤ 140737488351300) (hc : b.length ≤ c) (hb : Bytes w a b) :
    Calls Tryd.prog 24 #[.slice a b.length c, .int .i64 kd, .int .i64 vr] w fun e w' => OpenQG w w' e b kd vr := by
  have HB := Lib.hid hb
  have HC := Lib.hid hc
  have HW := Lib.hid (wrong_Q kd vr w)
  have HOP := Lib.hid (Open9 a c b w hl hc hb)
  clear hb
  cases hwr : wrongB kd vr with
  | true =>
    rw [hwr] at HW
    have HE : Hid (openT b kd vr = .error 2) := Lib.hid (by unfold openT; rw [if_pos hwr])
    clear hwr
    go_enter Tryd.func24, Tryd.ntmps24
    go_wp2_with fail
    refine HW.out.mono ?_
    rintro e w' ⟨rfl, rfl⟩
    go_wp2_with fail
    go_ret2
    exact .inl ⟨2, HE.out, rfl, Fr.refl _ _⟩
  | false =>
    rw [hwr] at HW
    have HWR := Lib.hid hwr
    clear hwr
    go_enter Tryd.func24, Tryd.ntmps24
    go_wp2_with fail
    refine HW.out.mono ?_
    rintro e w' ⟨rfl, rfl⟩
    go_wp2_with fail
    refine HOP.out.mono ?_
    rintro e w1 (⟨E, hE, rfl, hf1⟩ | ⟨k, v, sz, R, p, fb, hE, rfl, hmf, hf1⟩)
    · have hE0 : (E != 0) = true := by rw [bne_iff_ne]; rcases openB_err hE with h | h | h | h | h | h | h <;> omega
      have HE : Hid (openT b kd vr = .error E) := Lib.hid (by unfold openT; rw [HWR.out, hE]; rfl)
      have HF1 := Lib.hid hf1
      clear hE hf1
      go_wp2_with fail
      go_ret2
      exact .inl ⟨E, HE.out, rfl, HF1.out⟩
    · have HO := Lib.hid (openT_inv HWR.out hE)
      have HINV := Lib.hid (openB_inv hE)
      have HF1 := Lib.hid hf1
      obtain ⟨fv, X, hmh, -⟩ := hmf
      have HMF := Lib.hid hmh
      obtain ⟨y0, y1, y2, y3⟩ := four hmh.obj
      obtain ⟨fa, fc, rfl, -⟩ := hmh.recs.sl
      have hXl := hmh.len
      simp only at y0 y1 y2 hXl
      have HXL := Lib.hid hXl
      clear hE hf1 hmh
      by_cases hkd : (k : Int) = kd
      · have hki : ((k : Int) != kd) = false := by rw [hkd]; simp
        by_cases hs42 : sz = 42
        · have hsi : ((sz : Int) != 42) = false := by rw [hs42]; rfl
          by_cases hvr : (v : Int) = vr
          · have hvi : ((v : Int) != vr) = false := by rw [hvr]; simp
            by_cases h200 : 200 < X.length
            · have h2i : (200 : Int) < (X.length : Int) := by omega
              have HE : Hid (openT b kd vr = .error 66) := Lib.hid (by rw [HO.out, if_neg (by simp [hkd, hs42]), if_neg (by simp [hvr]), if_pos (by omega)])
              clear hkd hs42 hvr h200 HOP HW hXl
              go_wp2_with fail
              go_ret2
              exact .inl ⟨66, HE.out, rfl, HF1.out⟩
            · have h2i : ¬ (200 : Int) < (X.length : Int) := by omega
              have HOE : Hid (openT b kd vr = if errT [] R = 0 then .ok (R.map nmO) else .error (errT [] R)) := Lib.hid (by rw [HO.out, if_neg (by simp [hkd, hs42]), if_neg (by simp [hvr]), if_neg (by omega)])
              obtain ⟨kk, hkk⟩ : ∃ kk, kk = kd.toNat := ⟨_, rfl⟩
              obtain ⟨vv, hvv⟩ : ∃ vv, vv = vr.toNat := ⟨_, rfl⟩
              have e1 : kd = (kk : Int) := by have := of_decide_eq_false HWR.out; omega
              have e2 : vr = (vv : Int) := by have := of_decide_eq_false HWR.out; omega
              have HKV := Lib.hid (show kk = kd.toNat ∧ vv = vr.toNat ∧ sz = 42 from ⟨hkk, hvv, hs42⟩)
              subst hs42
              have HMF2 := HMF
              obtain ⟨n, hn⟩ : ∃ n, n = X.length := ⟨_, rfl⟩
              have hn200 : n ≤ 200 := by omega
              rw [← hn] at y3 h2i
              have HNN : Hid (n = R.length) := Lib.hid (by omega)
              have HNX : Hid (n = X.length) := Lib.hid hn
              have HSIZ := Lib.hid (show ∀ d, some d ∈ R → d.length = 41 from fun d hd => by have := HINV.out.2.2.2.2.2.2 d hd; omega)
              rw [e1, e2]
              rw [e1] at hki
              rw [e2] at hvi
              have HEE := Lib.hid (show kd = (kk : Int) ∧ vr = (vv : Int) from ⟨e1, e2⟩)
              clear hkd hvr h200 HOP HW HO hkk hvv e1 e2 hn hXl
              go_upto_region 13 with fail
              obtain ⟨w2, hw2⟩ : ∃ w2, w2 = w1 := ⟨_, rfl⟩
              rw [← hw2]
              subst hw2
              obtain ⟨w3, hw3⟩ : ∃ w3, w3 = w2.alloc (.cells #[.int .i64 kk, .int .i64 vv, .slice none 0 0] 59) := ⟨_, rfl⟩
              rw [← hw3]
              have HF3 := Lib.hid (show Fr [] w2 w3 by rw [hw3]; exact (Fr.refl [] _).alloc _)
              obtain ⟨q, hq⟩ : ∃ q, q = w2.heap.size := ⟨_, rfl⟩
              rw [← hq]
              have HM3 : Hid (MTH w3 w2.heap.size q kk vv (.slice none 0 0) (upT R 0)) := Lib.hid ⟨by rw [hw3, hq]; exact heap_alloc_new w2 _, World.ownsRow_nil _ _ _ _, nok_nilQ, by omega⟩
              have hq2 : q < w3.heap.size := (Array.getElem?_eq_some_iff.1 HM3.out.obj).1
              clear hw3 hq
              go_wp2_with fail
              go_loopw [11] (fun i wx => ∃ k : Nat, k ≤ n ∧ i = .int .i64 k ∧ errT [] R = errT (upT R k) (R.drop k) ∧ ∃ v, MTH wx w2.heap.size q kk vv v (upT R k) ∧ Fr [] w2 wx) (fun i _ => n - (intOf i).toNat)
              case atStart => exact ⟨0, by omega, rfl, rfl, _, HM3.out, HF3.out⟩
              case round =>
                obtain ⟨k, hk, rfl, her, tv, hmt, hf2⟩ := hrel
                obtain ⟨wx, hwx⟩ : ∃ wx, wx = wr := ⟨_, rfl⟩
                subst hwx
                have HER := Lib.hid her
                have HF2 := Lib.hid hf2
                have HMT := Lib.hid hmt
                obtain ⟨a2, c2, rfl⟩ := own_slR hmt.nms
                have hkl : (upT R k).length = k := upT_length (by have := HNN.out; omega)
                rw [hkl] at HMT
                have HKL := Lib.hid hkl
                have y3 := hf2.cell y3 (by simp)
                clear her hmt hf2 hkl
                by_cases hlt : k < n
                · have hki' : (k : Int) < (n : Int) := by omega
                  have hk0 : (0 : Int) ≤ (k : Int) := by omega
                  obtain ⟨fg, rfl, -, -⟩ := HMF.out.recs.pos (by have := HNX.out; omega)
                  obtain ⟨x, hx1, hx2, hxp, cu, cd, hxo, hxl⟩ := (HMF.out.keep HF2.out).at (k := k) (by show k < R.length; have := HNN.out; omega)
                  cases hd : R.getD k none with
                  | none =>
                    have hat : R[k]? = some none := by
                      have hkR : k < R.length := by have := HNN.out; omega
                      rw [List.getD_eq_getElem?_getD] at hd
                      rw [List.getElem?_eq_getElem hkR] at hd ⊢
                      exact congrArg some hd
                    replace cu : wx.cell? ⟨fg, k * 2, none⟩ = some (.bool false) := by rw [cu]; show some (Value.bool (R.getD k none).isSome) = _; rw [hd]; rfl
                    have HUP : Hid (upT R (k + 1) = upT R k ++ [[]]) := Lib.hid (upT_succ hat)
                    have HEN : Hid (errT [] R = errT (upT R (k + 1)) (R.drop (k + 1))) := Lib.hid (by rw [HER.out, errT_at hat])
                    have HNK : Hid (NOk (upT R (k + 1))) := Lib.hid (by rw [HUP.out]; exact HMT.out.ok.snocE (by rw [HKL.out]; omega))
                    clear hx1 hx2 hxp cd hxo hxl hd hat
                    have hx2 : wx.cell? ⟨q, 2, none⟩ = some (.slice a2 k c2) := (trioQ HMT.out.obj).2.2
                    have hfx : Fr [] wx (wx.alloc (.cells #[.string ⟨#[]⟩] 9)) := (Fr.refl [] _).alloc _
                    have hnews : ∀ a, some (⟨wx.heap.size, 0, none⟩ : Addr) = some a → ∀ j u, [Value.string ⟨#[]⟩][j]? = some u → (wx.alloc (.cells #[.string ⟨#[]⟩] 9)).cell? (a.add j) = some u := by
                      intro a ha j u hu
                      cases ha
                      have hz := heap_alloc_new wx (.cells #[.string ⟨#[]⟩] 9)
                      rw [addT, Nat.zero_add, cell_of_row _ _ j _ _ _ hz]
                      simpa using hu
                    have HNEWS := Lib.hid hnews
                    have HOX : Hid ((wx.alloc (.cells #[.string ⟨#[]⟩] 9)).ownsRow w2.heap.size 9 1 (.slice a2 k c2) k ((upT R k).map Str)) := Lib.hid (by have h := own_fr HMT.out.nms hfx (by simp); rw [HKL.out] at h; exact h)
                    have HFX := Lib.hid hfx
                    have HBX : Hid (w2.heap.size ≤ (wx.alloc (.cells #[.string ⟨#[]⟩] 9)).heap.size) := Lib.hid (Nat.le_trans HF2.out.size hfx.size)
                    have HOBX := Lib.hid (hfx.obj HMT.out.obj (by simp))
                    clear hnews hfx
                    go_wp2_with (at_builtin; refine wpList_appS _ rfl _ _ 23 rfl w2.heap.size 9 _ 1 16 Tryd.underlying23 infoS rfl (by decide) (.slice a2 k c2) k ((upT R k).map Str) rfl HOX.out (some ⟨wx.heap.size, 0, none⟩) 1 1 [.string ⟨#[]⟩] rfl rfl HNEWS.out (fun h => by cases h) (by simp [Value.oneCell']) (by unfold maxLen; omega) (by omega) HBX.out ?_; intro v' w8 happ; obtain ⟨a6, c6, e6⟩ := own_slR happ.own; subst e6; have HAPP := Lib.hid happ; have hob := (app_frZ happ).obj HOBX.out (fun hm => HMT.out.off (by simpa [Value.ownBlock] using hm)); obtain ⟨z0, z1, z2⟩ := trioQ hob; have z2f := frozen_of_row _ _ 2 _ _ hob; have HOB8 := Lib.hid hob; clear happ hob)
                    go_roundw
                    case rel =>
                      have hf8 := app_frZ HAPP.out
                      have hft : Fr [q] w8 (w8.setCell ⟨q, 2, none⟩ (.slice a6 (k + 1) c6)) := (Fr.refl [q] w8).setCell (by simp) _
                      have hown : (w8.setCell ⟨q, 2, none⟩ (.slice a6 (k + 1) c6)).ownsRow w2.heap.size 9 1 (.slice a6 (k + 1) c6) (upT R (k + 1)).length ((upT R (k + 1)).map Str) := by
                        rw [HUP.out, List.length_append, List.map_append, HKL.out]
                        have h := own_fr HAPP.out.own hft (fun g hg hm => by
                          simp at hm
                          subst hm
                          exact own_ty HAPP.out.own HOB8.out (by decide) hg)
                        rw [show (Value.string ⟨#[]⟩ : Value) = Str [] from rfl] at h
                        exact h
                      have hobj : (w8.setCell ⟨q, 2, none⟩ (.slice a6 (k + 1) c6)).heap[q]? = some (.cells #[.int .i64 kk, .int .i64 vv, .slice a6 (k + 1) c6] 59) := by rw [heap_setCell_same w8 q 2 _ _ _ HOB8.out]; rfl
                      refine ⟨k + 1, by omega, by go_num, HEN.out, .slice a6 (k + 1) c6, ⟨hobj, hown, HNK.out, HMT.out.bq⟩, ?_⟩
                      refine ((HF2.out.trans HFX.out).next hf8 (fun i hi hlt => ?_)).next hft (fun i hi hlt => ?_)
                      · have := (own_lt HMT.out.nms (g := i) (by simpa [Value.ownBlock] using hi)).1
                        omega
                      · simp at hi
                        have := HMT.out.bq
                        omega
                    case measure => simp [intOf] <;> omega
                  | some d =>
                    have hat : R[k]? = some (some d) := by
                      have hkR : k < R.length := by have := HNN.out; omega
                      rw [List.getD_eq_getElem?_getD] at hd
                      rw [List.getElem?_eq_getElem hkR] at hd ⊢
                      exact congrArg some hd
                    replace cu : wx.cell? ⟨fg, k * 2, none⟩ = some (.bool true) := by rw [cu]; show some (Value.bool (R.getD k none).isSome) = _; rw [hd]; rfl
                    have hxd : x.d = d := by
                      have h1 : x.p = docO 42 (R.getD k none) := hxp
                      rw [hd] at h1
                      exact congrArg Prod.snd h1
                    have hd41 := HSIZ.out d (List.mem_of_getElem? hat)
                    have hby := (own_by9 hxo).1
                    have hcap := (own_by9 hxo).2
                    obtain ⟨gx, xo, hxa, hcs⟩ := hby.at (by rw [hxd]; omega)
                    replace cd : wx.cell? ⟨fg, k * 2 + 1, none⟩ = some (.slice (some ⟨gx, xo, none⟩) 41 x.c) := by rw [cd]; unfold RI.v; rw [hxa, hxd, hd41]
                    rw [hxd] at hcs hby hcap
                    rw [hxa] at hby
                    rw [hd41] at hcap
                    obtain ⟨xc, hxc⟩ : ∃ xc, xc = x.c := ⟨_, rfl⟩
                    rw [← hxc] at cd hcap
                    obtain ⟨m, hm⟩ : ∃ m, m = (d.getD 0 0).toNat := ⟨_, rfl⟩
                    have hm255 : m ≤ 255 := by rw [hm]; have := (d.getD 0 0).toNat_lt; omega
                    have c0 := hcs 0 (by omega)
                    unfold B8 at c0
                    rw [I8_toT, ← hm, Nat.add_zero] at c0
                    have HCS : Hid (∀ j, j < 41 → wx.cell? ⟨gx, xo + j, none⟩ = some (.int .u8 (I8 (d.getD j 0)))) := Lib.hid (fun j hj => hcs j (by omega))
                    have HAT := Lib.hid (errT_some hat)
                    have HBY := Lib.hid hby
                    have HMM := Lib.hid hm
                    have HD41 := Lib.hid hd41
                    have HUP : Hid (upT R (k + 1) = upT R k ++ [nmT d]) := Lib.hid (upT_succ hat)
                    have HBAD : Hid (okT d = false → openT b kd vr = .error 110) := Lib.hid (fun h => by
                      have : errT [] R = 110 := by
                        rw [HER.out, HAT.out]
                        simp only [h]
                        rfl
                      rw [HOE.out, this]
                      rfl)
                    clear hx1 hx2 hxp hxo hxl hd hat hxd hd41 hby hxa hcs hxc hm
                    by_cases hm1 : m < 1
                    · have hmi : (m : Int) < 1 := by omega
                      have HK : Hid (okT d = false) := Lib.hid (by
                        cases h : okT d with
                        | false => rfl
                        | true =>
                          have h1 := (goodB_ne (okT_n h).2.2).1
                          exfalso
                          apply h1
                          unfold nmT
                          rw [← HMM.out, show m = 0 by omega]
                          rfl)
                      clear hm1
                      go_wp2_with fail
                      go_ret2
                      exact .inl ⟨110, HBAD.out HK.out, rfl, HF1.out.trans HF2.out⟩
                    have hmi : ¬ (m : Int) < 1 := by omega
                    by_cases hm40 : 40 < m
                    · have hmi2 : (40 : Int) < (m : Int) := by omega
                      have HK : Hid (okT d = false) := Lib.hid (by
                        cases h : okT d with
                        | false => rfl
                        | true => have := (okT_n h).1; have := HMM.out; omega)
                      clear hm40
                      go_wp2_with fail
                      go_ret2
                      exact .inl ⟨110, HBAD.out HK.out, rfl, HF1.out.trans HF2.out⟩
                    have hmi2 : ¬ (40 : Int) < (m : Int) := by omega
                    have ew : IntKind.i64.wrap (1 + (m : Int)) = ((1 + m : Nat) : Int) := by rw [IntWalk.i64_in _ (by omega)]; omega
                    go_wp2_with fail
                    go_loopw [15] (fun i wr => ∃ j : Nat, 1 + m ≤ j ∧ j ≤ 41 ∧ i = .int .i64 j ∧ (∀ t, 1 + m ≤ t → t < j → d.getD t 0 = 0) ∧ wx = wr) (fun i _ => 41 - (intOf i).toNat)
                    case atStart => exact ⟨1 + m, Nat.le_refl _, by omega, by simp, fun t h1 h2 => absurd h1 (by omega), rfl⟩
                    case round =>
                      obtain ⟨j, hj1, hj41, rfl, hz, rfl⟩ := hrel
                      have HZ := Lib.hid hz
                      clear hz
                      by_cases hjl : j < 41
                      · have hji : (j : Int) < 41 := by omega
                        have hj0 : (0 : Int) ≤ (j : Int) := by omega
                        have cj := HCS.out j hjl
                        obtain ⟨y, hy⟩ : ∃ y, y = d.getD j 0 := ⟨_, rfl⟩
                        rw [← hy] at cj
                        have h0 : (I8 y != 0) = (y != 0) := by
                          have := I8_ne y 0
                          rwa [show I8 0 = 0 by decide +kernel] at this
                        have HY := Lib.hid hy
                        clear hy
                        cases hyz : (y != 0) with
                        | true =>
                          rw [hyz] at h0
                          have HK : Hid (okT d = false) := Lib.hid (by
                            cases h : okT d with
                            | false => rfl
                            | true =>
                              have h1 := (okT_n h).2.1
                              rw [← HMM.out] at h1
                              have h2 := List.any_eq_false.1 h1 y (by
                                rw [HY.out, List.getD_eq_getElem?_getD, List.getElem?_eq_getElem (by rw [HD41.out]; omega)]
                                refine List.mem_iff_getElem?.2 ⟨j - (1 + m), ?_⟩
                                rw [List.getElem?_drop, show 1 + m + (j - (1 + m)) = j by omega, List.getElem?_eq_getElem (by rw [HD41.out]; omega)]
                                rfl)
                              exact absurd hyz h2)
                          go_wp2_with fail
                          go_ret2
                          exact .inl ⟨110, HBAD.out HK.out, rfl, HF1.out.trans HF2.out⟩
                        | false =>
                          rw [hyz] at h0
                          go_wp2_with fail
                          go_roundw
                          case rel => exact ⟨j + 1, by omega, by omega, by go_num, fun t h1 h2 => by
                            by_cases htj : t < j
                            · exact HZ.out t h1 htj
                            · obtain rfl : t = j := by omega
                              rw [← HY.out]
                              simpa using hyz, by simp⟩
                          case measure => simp [intOf] <;> omega
                      · obtain rfl : j = 41 := by omega
                        have hany : (d.drop (1 + m)).any (· != 0) = false := by
                          rw [List.any_eq_false]
                          intro y hy
                          obtain ⟨i, hi⟩ := List.mem_iff_getElem?.1 hy
                          rw [List.getElem?_drop] at hi
                          have hlt2 := (List.getElem?_eq_some_iff.1 hi).1
                          rw [HD41.out] at hlt2
                          have h3 := HZ.out (1 + m + i) (by omega) hlt2
                          rw [List.getD_eq_getElem?_getD, hi] at h3
                          have h4 : y = 0 := h3
                          simp [h4]
                        obtain ⟨nm, hnm⟩ : ∃ nm, nm = nmT d := ⟨_, rfl⟩
                        have hnl : nm.length = m := by rw [hnm]; unfold nmT; rw [← HMM.out, List.length_take, List.length_drop, HD41.out]; omega
                        have hsb := HBY.out.sub 1 m (by rw [HD41.out]; omega)
                        have hcv := fun cc => conv_any (some ⟨gx, xo + 1, none⟩) cc nm wx (fun h => by cases h) (by rw [hnm]; unfold nmT; rw [← HMM.out]; exact hsb)
                        simp only [hnl] at hcv
                        have HGN := Lib.hid (GoodName6 nm (by omega) wx)
                        have HOKD : Hid (okT d = goodB nm) := Lib.hid (by unfold okT; rw [← HMM.out, decide_eq_true (by omega), hany, hnm]; rfl)
                        have HNM := Lib.hid hnm
                        have HFQ := Lib.hid (fun w' (hf : Fr [] wx w') => Find_Q w2.heap.size _ w' q kk vv (upT R k) nm ⟨_, HMT.out.fr hf (by simp), rfl⟩)
                        obtain ⟨S, hS⟩ : ∃ S, S = ByteArray.mk nm.toArray := ⟨_, rfl⟩
                        rw [← hS] at hcv HGN HFQ
                        have HSS := Lib.hid hS
                        have hn1 : 1 + m - 1 = m := by omega
                        clear hany hnm hnl hsb hS
                        cases hg : goodB nm with
                        | false =>
                          rw [hg] at HGN HOKD
                          clear hg
                          go_wp2_with fail
                          refine HGN.out.mono ?_
                          rintro e w6 ⟨rfl, hf6⟩
                          have HF6 := Lib.hid hf6
                          clear hf6
                          go_wp2_with fail
                          go_ret2
                          exact .inl ⟨110, HBAD.out HOKD.out, rfl, (HF1.out.trans HF2.out).trans HF6.out⟩
                        | true =>
                          rw [hg] at HGN HOKD
                          have HGD := Lib.hid hg
                          clear hg
                          go_wp2_with fail
                          refine HGN.out.mono ?_
                          rintro e w6 ⟨rfl, hf6⟩
                          have HF6 := Lib.hid hf6
                          have HFD := Lib.hid (HFQ.out w6 hf6)
                          cases hfn : findN (upT R k) nm with
                          | some i =>
                            rw [show findZ (upT R k) nm = (i : Int) by unfold findZ; rw [hfn]] at HFD
                            have HE : Hid (openT b kd vr = .error 7) := Lib.hid (by
                              have : errT [] R = 7 := by
                                rw [HER.out, HAT.out]
                                simp only [HOKD.out, ← HNM.out, hfn]
                                rfl
                              rw [HOE.out, this]
                              rfl)
                            have hi0 : (0 : Int) ≤ (i : Int) := by omega
                            clear hf6 hfn
                            go_wp2_with fail
                            refine HFD.out.mono ?_
                            rintro e w7 ⟨rfl, rfl⟩
                            go_wp2_with fail
                            go_ret2
                            exact .inl ⟨7, HE.out, rfl, (HF1.out.trans HF2.out).trans HF6.out⟩
                          | none =>
                            rw [show findZ (upT R k) nm = -1 by unfold findZ; rw [hfn]] at HFD
                            have HEN : Hid (errT [] R = errT (upT R (k + 1)) (R.drop (k + 1))) := Lib.hid (by
                              rw [HER.out, HAT.out]
                              simp only [HOKD.out, ← HNM.out, hfn]
                              rfl)
                            have HUP2 : Hid (upT R (k + 1) = upT R k ++ [nm]) := Lib.hid (by rw [HUP.out, HNM.out])
                            have HNK : Hid (NOk (upT R (k + 1))) := Lib.hid (by rw [HUP2.out]; exact HMT.out.ok.snoc (by rw [HKL.out]; omega) HGD.out hfn)
                            have HMT0 := HMT
                            have HMT := Lib.hid (HMT0.out.fr hf6 (by simp))
                            have HF20 := HF2
                            have HF2 := Lib.hid (HF20.out.trans hf6)
                            clear hf6 hfn cu cd y3 c0 hcv
                            go_wp2_with fail
                            refine HFD.out.mono ?_
                            rintro e w7 ⟨rfl, rfl⟩
                            have hx2 : w6.cell? ⟨q, 2, none⟩ = some (.slice a2 k c2) := (trioQ HMT.out.obj).2.2
                            have hfx : Fr [] w6 (w6.alloc (.cells #[.string S] 9)) := (Fr.refl [] _).alloc _
                            have hnews : ∀ a, some (⟨w6.heap.size, 0, none⟩ : Addr) = some a → ∀ j u, [Value.string S][j]? = some u → (w6.alloc (.cells #[.string S] 9)).cell? (a.add j) = some u := by
                              intro a ha j u hu
                              cases ha
                              have hz := heap_alloc_new w6 (.cells #[.string S] 9)
                              rw [addT, Nat.zero_add, cell_of_row _ _ j _ _ _ hz]
                              simpa using hu
                            have HNEWS := Lib.hid hnews
                            have HOX : Hid ((w6.alloc (.cells #[.string S] 9)).ownsRow w2.heap.size 9 1 (.slice a2 k c2) k ((upT R k).map Str)) := Lib.hid (by have h := own_fr HMT.out.nms hfx (by simp); rw [HKL.out] at h; exact h)
                            have HFX := Lib.hid hfx
                            have HBX : Hid (w2.heap.size ≤ (w6.alloc (.cells #[.string S] 9)).heap.size) := Lib.hid (Nat.le_trans HF2.out.size hfx.size)
                            have HOBX := Lib.hid (hfx.obj HMT.out.obj (by simp))
                            clear hnews hfx
                            go_wp2_with (at_builtin; refine wpList_appS _ rfl _ _ 23 rfl w2.heap.size 9 _ 1 16 Tryd.underlying23 infoS rfl (by decide) (.slice a2 k c2) k ((upT R k).map Str) rfl HOX.out (some ⟨w6.heap.size, 0, none⟩) 1 1 [.string S] rfl rfl HNEWS.out (fun h => by cases h) (by simp [Value.oneCell']) (by unfold maxLen; omega) (by omega) HBX.out ?_; intro v' w8 happ; obtain ⟨a6, c6, e6⟩ := own_slR happ.own; subst e6; have HAPP := Lib.hid happ; have hob := (app_frZ happ).obj HOBX.out (fun hm => HMT.out.off (by simpa [Value.ownBlock] using hm)); obtain ⟨z0, z1, z2⟩ := trioQ hob; have z2f := frozen_of_row _ _ 2 _ _ hob; have HOB8 := Lib.hid hob; clear happ hob)
                            go_roundw
                            case rel =>
                              have hf8 := app_frZ HAPP.out
                              have hft : Fr [q] w8 (w8.setCell ⟨q, 2, none⟩ (.slice a6 (k + 1) c6)) := (Fr.refl [q] w8).setCell (by simp) _
                              have hown : (w8.setCell ⟨q, 2, none⟩ (.slice a6 (k + 1) c6)).ownsRow w2.heap.size 9 1 (.slice a6 (k + 1) c6) (upT R (k + 1)).length ((upT R (k + 1)).map Str) := by
                                rw [HUP2.out, List.length_append, List.map_append, HKL.out]
                                have h := own_fr HAPP.out.own hft (fun g hg hm => by
                                  simp at hm
                                  subst hm
                                  exact own_ty HAPP.out.own HOB8.out (by decide) hg)
                                rw [show (Value.string S : Value) = Str nm from (by rw [HSS.out]; rfl)] at h
                                exact h
                              have hobj : (w8.setCell ⟨q, 2, none⟩ (.slice a6 (k + 1) c6)).heap[q]? = some (.cells #[.int .i64 kk, .int .i64 vv, .slice a6 (k + 1) c6] 59) := by rw [heap_setCell_same w8 q 2 _ _ _ HOB8.out]; rfl
                              refine ⟨k + 1, by omega, by go_num, HEN.out, .slice a6 (k + 1) c6, ⟨hobj, hown, HNK.out, HMT.out.bq⟩, ?_⟩
                              refine ((HF2.out.trans HFX.out).next hf8 (fun i hi hlt => ?_)).next hft (fun i hi hlt => ?_)
                              · have := (own_lt HMT.out.nms (g := i) (by simpa [Value.ownBlock] using hi)).1
                                omega
                              · simp at hi
                                have := HMT.out.bq
                                omega
                            case measure => simp [intOf] <;> omega
                · have hki' : ¬ (k : Int) < (n : Int) := by omega
                  have hkR : k = R.length := by have := HNN.out; omega
                  have h0 : errT [] R = 0 := by rw [HER.out]; exact errT_end (by omega) _
                  have hall : upT R k = R.map nmO := by rw [hkR]; exact upT_all R
                  have HE : Hid (openT b kd vr = .ok (R.map nmO)) := Lib.hid (by rw [HOE.out, if_pos h0])
                  have hmt := HMT.out
                  rw [hall, HKV.out.1, HKV.out.2.1] at hmt
                  have hln : (R.map nmO).length = k := by rw [List.length_map, hkR]
                  have HMT2 : Hid (MT w.heap.size (mtB q (.slice a2 k c2)) wx q kd.toNat vr.toNat (R.map nmO)) := Lib.hid (MT.base_le ⟨_, hmt, rfl⟩ HF1.out.size)
                  clear hkR h0 hall hmt hln
                  go_wp2_with fail
                  go_ret2
                  exact .inr ⟨_, q, _, HE.out, HWR.out, rfl, HMT2.out, HF1.out.trans HF2.out⟩
          · have hvi : ((v : Int) != vr) = true := by rw [bne_iff_ne]; exact hvr
            have HE : Hid (openT b kd vr = .error 8) := Lib.hid (by rw [HO.out, if_neg (by simp [hkd, hs42]), if_pos hvr])
            clear hkd hs42 hvr HOP HW hXl
            go_wp2_with fail
            go_ret2
            exact .inl ⟨8, HE.out, rfl, HF1.out⟩
        · have hsi : ((sz : Int) != 42) = true := by rw [bne_iff_ne]; omega
          have HE : Hid (openT b kd vr = .error 111) := Lib.hid (by rw [HO.out, if_pos (.inr hs42)])
          clear hkd hs42 HOP HW hXl
          go_wp2_with fail
          go_ret2
          exact .inl ⟨111, HE.out, rfl, HF1.out⟩
      · have hki : ((k : Int) != kd) = true := by rw [bne_iff_ne]; exact hkd
        have HE : Hid (openT b kd vr = .error 111) := Lib.hid (by rw [HO.out, if_pos (.inl hkd)])
        clear hkd HOP HW hXl
        go_wp2_with fail
        go_ret2
        exact .inl ⟨111, HE.out, rfl, HF1.out⟩
end Go.Proofs.YtlckhfjkdahfpaaDoor
