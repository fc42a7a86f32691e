/- Tokens: a record's name. -/
import Derived.Test.YtlckhfjkdahfpaaDoorTkD
import Derived.Test.YtlckhfjkdahfpaaDoorRfK
import Derived.Test.YtlckhfjkdahfpaaDoorRfZ
namespace Go.Proofs.YtlckhfjkdahfpaaDoor
open Go.RowKit Go.Maps
attribute [local go_sem ↓] Go.wp_at_zero Go.wp_at_succ
theorem NonzT_F (x : UInt8) (w : World) : Calls Tryd.prog 57 #[.int .u8 (I8 x)] w fun e w' => e = .returned (.bool (x != 0)) ∧ w = w' := by
  have h0 : (I8 x != 0) = (x != 0) := by
    have := I8_ne x 0
    rwa [show I8 0 = 0 by decide +kernel] at this
  go_enter Tryd.func57, Tryd.ntmps57
  go_wp2
  go_ret
  exact ⟨rfl, rfl⟩
set_option maxRecDepth 100000 in
theorem IndexFuncT_F (a : Option Addr) (c : Nat) (l : List UInt8) (w : World) (hl : l.length ≤ 140737488351300) (hb : Bytes w a l) :
    Calls Tryd.prog 73 #[.slice a l.length c, .func (.func 57) #[] #[]] w fun e w' => ∃ z : Int, e = .returned (.int .i64 z) ∧ decide (0 ≤ z) = l.any (· != 0) ∧ w = w' := by
  have HB := Lib.hid hb
  clear hb
  go_enter Tryd.func73, Tryd.ntmps73
  go_wp2_with fail
  go_loopw [8] (fun i wr => ∃ k : Nat, k ≤ l.length ∧ i = .int .i64 k ∧ (∀ j, j < k → l.getD j 0 = 0) ∧ w = wr) (fun i _ => l.length - (intOf i).toNat)
  case atStart => exact ⟨0, by omega, rfl, fun j h => absurd h (by omega), rfl⟩
  case round =>
    obtain ⟨k, hk, rfl, hz, rfl⟩ := hrel
    by_cases hlt : k < l.length
    · obtain ⟨b, o, rfl, hcs⟩ := HB.out.at (by omega)
      have hc := hcs k hlt
      have hki : (k : Int) < (l.length : Int) := by omega
      have hki0 : (0 : Int) ≤ (k : Int) := by omega
      have HZ := Lib.hid hz
      obtain ⟨x, hx⟩ : ∃ x, x = l.getD k 0 := ⟨_, rfl⟩
      rw [← hx] at hc
      have HX := Lib.hid hx
      clear hcs hz hx
      unfold B8 at hc
      go_wp2_with fail
      refine (NonzT_F x w).mono ?_
      rintro e w' ⟨rfl, rfl⟩
      cases hz : (x != 0) with
      | true =>
        go_wp2
        go_ret
        refine ⟨(k : Int), rfl, ?_, rfl⟩
        rw [any_yes hlt (by rw [← HX.out]; exact hz)]
        exact decide_eq_true (by omega)
      | false =>
        go_wp2
        go_roundw
        case rel =>
          refine ⟨k + 1, by omega, by go_num, fun j hj => ?_, by simp⟩
          by_cases h : j < k
          · exact HZ.out j h
          · obtain rfl : j = k := by omega
            rw [← HX.out]
            simpa using hz
        case measure => simp [intOf] <;> omega
    · have HZ := Lib.hid (any_not (l := l) fun j hj => hz j (by omega))
      clear hz
      go_wp2
      go_ret
      refine ⟨-1, rfl, ?_, rfl⟩
      rw [HZ.out]
      rfl
theorem ContainsFuncT_F (a : Option Addr) (c : Nat) (l : List UInt8) (w : World) (hl : l.length ≤ 140737488351300) (hb : Bytes w a l) :
    Calls Tryd.prog 54 #[.slice a l.length c, .func (.func 57) #[] #[]] w fun e w' => e = .returned (.bool (l.any (· != 0))) ∧ w = w' := by
  have HI := Lib.hid (IndexFuncT_F a c l w hl hb)
  clear hb
  go_enter Tryd.func54, Tryd.ntmps54
  go_wp2_with fail
  refine HI.out.mono ?_
  rintro e w' ⟨z, rfl, hz, rfl⟩
  have HZ := Lib.hid hz
  clear hz
  go_wp2
  go_ret
  exact ⟨ret_bool HZ.out, rfl⟩
set_option maxRecDepth 100000 in
theorem nameOf_F (g c : Nat) (d : List UInt8) (w : World) (hd : d.length = 41) (hc : 41 ≤ c) (hb : Bytes w (some ⟨g, 0, none⟩) d) :
    Calls Tryd.prog 38 #[.slice (some ⟨g, 0, none⟩) 41 c] w fun e w' => ∃ s, e = .returned (.tuple #[Str s, .bool (okT d)]) ∧ (okT d = true → s = nmT d) ∧ w = w' := by
  obtain ⟨b, o, e, hcs⟩ := hb.at (by omega)
  simp only [Option.some.injEq, Addr.mk.injEq] at e
  obtain ⟨rfl, rfl, -⟩ := e
  have h0 := hcs 0 (by omega)
  unfold B8 at h0
  rw [I8_toT] at h0
  obtain ⟨n, hn⟩ : ∃ n, n = (d.getD 0 0).toNat := ⟨_, rfl⟩
  rw [← hn] at h0
  have hn255 : n ≤ 255 := by rw [hn]; have := (d.getD 0 0).toNat_lt; omega
  have HB := Lib.hid hb
  have HN := Lib.hid hn
  have HD := Lib.hid hd
  clear hcs hb hd hn
  simp only [Nat.zero_add] at h0
  by_cases h40 : 40 < n
  · have hni : (40 : Int) < (n : Int) := by omega
    have HK : Hid (okT d = false) := Lib.hid (by unfold okT; rw [← HN.out, decide_eq_false (by omega)]; rfl)
    go_enter Tryd.func38, Tryd.ntmps38
    go_wp2_with fail
    go_ret2
    exact ⟨[], by rw [HK.out]; rfl, (fun h => by rw [HK.out] at h; cases h), rfl⟩
  · have hni : ¬ (40 : Int) < (n : Int) := by omega
    have hdl : (d.drop (1 + n)).length = 40 - n := by rw [List.length_drop, HD.out]; omega
    have hsub := HB.out.sub (1 + n) (40 - n) (by rw [HD.out]; omega)
    rw [List.take_of_length_le (by rw [hdl]; omega), Nat.zero_add] at hsub
    have HSUB := Lib.hid (ContainsFuncT_F (some ⟨g, 1 + n, none⟩) (c - (1 + n)) _ w (by rw [hdl]; omega) hsub)
    rw [hdl, show 40 - n = 41 - (1 + n) by omega] at HSUB
    have HNIL : Hid (n = 40 → Calls Tryd.prog 54 #[.slice (some ⟨g, 0, none⟩) 0 0, .func (.func 57) #[] #[]] w fun e w' => e = .returned (.bool ((d.drop (1 + n)).any (· != 0))) ∧ w = w') := Lib.hid fun h => by
      have h1 := ContainsFuncT_F (some ⟨g, 0, none⟩) 0 [] w (by simp) (Bytes.nil ..)
      rw [show d.drop (1 + n) = [] from List.drop_eq_nil_of_le (by rw [HD.out]; omega)]
      exact h1
    obtain ⟨nm, hnm⟩ : ∃ nm, nm = nmT d := ⟨_, rfl⟩
    have hnl : nm.length = n := by rw [hnm]; unfold nmT; rw [← HN.out, List.length_take, List.length_drop, HD.out]; omega
    have hsb := HB.out.sub 1 n (by rw [HD.out]; omega)
    rw [Nat.zero_add] at hsb
    have hcv := fun cc => conv_any (some ⟨g, 1, none⟩) cc nm w (fun h => by cases h) (by rw [hnm]; unfold nmT; rw [← HN.out]; exact hsb)
    simp only [hnl] at hcv
    have HGN := Lib.hid (GoodName_F nm (by omega) w)
    have HNM := Lib.hid hnm
    have HOK : Hid (okT d = (!(d.drop (1 + n)).any (· != 0) && goodB nm)) := Lib.hid (by unfold okT; rw [← HN.out, decide_eq_true (by omega), hnm]; rfl)
    obtain ⟨z, hz⟩ : ∃ z, z = (d.drop (1 + n)).any (· != 0) := ⟨_, rfl⟩
    rw [← hz] at HSUB HOK HNIL
    have HZ := Lib.hid hz
    have HS : Hid (Str nm = .string ⟨nm.toArray⟩) := Lib.hid rfl
    generalize ByteArray.mk nm.toArray = S at hcv HGN HS
    have hn1 : 1 + n - 1 = n := by omega
    clear hnm hnl hsb hz
    have hw : IntKind.i64.wrap (1 + (n : Int)) = ((1 + n : Nat) : Int) := by rw [IntWalk.i64_in _ (by omega)]; omega
    clear hdl hsub
    by_cases hcn : c = 1 + n
    · subst hcn
      go_enter Tryd.func38, Tryd.ntmps38
      go_wp2_with fail
      refine (HNIL.out (by omega)).mono ?_
      rintro e w' ⟨rfl, rfl⟩
      cases z with
      | true =>
        have HK : Hid (okT d = false) := Lib.hid (by rw [HOK.out]; rfl)
        go_wp2_with fail
        go_ret2
        exact ⟨[], by rw [HK.out]; rfl, (fun h => by rw [HK.out] at h; cases h), rfl⟩
      | false =>
        have HK : Hid (okT d = goodB nm) := Lib.hid (by rw [HOK.out]; rfl)
        go_wp2_with fail
        refine HGN.out.mono ?_
        rintro e w' ⟨rfl, rfl⟩
        go_wp2_with fail
        go_ret2
        exact ⟨nm, by rw [HK.out, HS.out]; rfl, fun _ => HNM.out, rfl⟩
    · clear HNIL
      go_enter Tryd.func38, Tryd.ntmps38
      go_wp2_with fail
      refine HSUB.out.mono ?_
      rintro e w' ⟨rfl, rfl⟩
      cases z with
      | true =>
        have HK : Hid (okT d = false) := Lib.hid (by rw [HOK.out]; rfl)
        go_wp2_with fail
        go_ret2
        exact ⟨[], by rw [HK.out]; rfl, (fun h => by rw [HK.out] at h; cases h), rfl⟩
      | false =>
        have HK : Hid (okT d = goodB nm) := Lib.hid (by rw [HOK.out]; rfl)
        go_wp2_with fail
        refine HGN.out.mono ?_
        rintro e w' ⟨rfl, rfl⟩
        go_wp2_with fail
        go_ret2
        exact ⟨nm, by rw [HK.out, HS.out]; rfl, fun _ => HNM.out, rfl⟩
end Go.Proofs.YtlckhfjkdahfpaaDoor

/- Tokens: what Open's loop holds, in memory. -/
namespace Go.Proofs.YtlckhfjkdahfpaaDoor
open Go.RowKit Go.Maps
attribute [local go_sem] Oper.semAt_some
structure ToP where
  l : Nat
  D : Nat
  X6 : Nat
  X7 : Nat
  XT : Nat
  Bn : Nat
  t : Nat
  mb : Nat
  g : Nat
def ToP.fix (P : ToP) : List Nat := [P.l, P.D, P.X6, P.X7, P.XT, P.Bn, P.t, P.mb, P.g]
structure ToS (P : ToP) (w : World) (fb : List Nat) (p n : Nat) (s : RFS) (o : Obj) (e : Int) (N : Nms) (A : World) : Prop where
  lp : A.heap[P.l]? = some o
  df : A.heap[P.D]? = some (.deferred (some []))
  x6 : A.heap[P.X6]? = some (.cells #[.pointer none] 24)
  x7 : A.heap[P.X7]? = some (.cells #[.int .i64 e] 25)
  xt : A.heap[P.XT]? = some (.cells #[.pointer (some ⟨P.t, 0, none⟩)] 24)
  bn : A.heap[P.Bn]? = some (.cells #[.pointer (some ⟨p, 0, none⟩)] 62)
  tb : A.heap[P.t]? = some (.cells #[.pointer (some ⟨p, 0, none⟩), .slice (some ⟨P.g, 0, none⟩) n n, .map (some P.mb)] 68)
  nm : A.ownsRow w.heap.size 9 1 (.slice (some ⟨P.g, 0, none⟩) n n) n (N.map Str)
  mp : MapT A P.mb N
  rf : RF w.heap.size fb A p s
  fr : Fr [] w A
  nd : P.fix.Nodup
  new : ∀ i ∈ P.fix, w.heap.size ≤ i
  ff : ∀ i ∈ fb, i ∉ P.fix
theorem ToP.nd {P : ToP} (h : P.fix.Nodup) : (P.l ≠ P.D ∧ P.l ≠ P.X6 ∧ P.l ≠ P.X7 ∧ P.l ≠ P.XT ∧ P.l ≠ P.Bn ∧ P.l ≠ P.t ∧ P.l ≠ P.mb ∧ P.l ≠ P.g) ∧ (P.D ≠ P.X6 ∧ P.D ≠ P.X7 ∧ P.D ≠ P.XT ∧ P.D ≠ P.Bn ∧ P.D ≠ P.t ∧ P.D ≠ P.mb ∧ P.D ≠ P.g) ∧ (P.X6 ≠ P.X7 ∧ P.X6 ≠ P.XT ∧ P.X6 ≠ P.Bn ∧ P.X6 ≠ P.t ∧ P.X6 ≠ P.mb ∧ P.X6 ≠ P.g) ∧ (P.X7 ≠ P.XT ∧ P.X7 ≠ P.Bn ∧ P.X7 ≠ P.t ∧ P.X7 ≠ P.mb ∧ P.X7 ≠ P.g) ∧ (P.XT ≠ P.Bn ∧ P.XT ≠ P.t ∧ P.XT ≠ P.mb ∧ P.XT ≠ P.g) ∧ (P.Bn ≠ P.t ∧ P.Bn ≠ P.mb ∧ P.Bn ≠ P.g) ∧ (P.t ≠ P.mb ∧ P.t ≠ P.g) ∧ P.mb ≠ P.g := by
  simp only [ToP.fix, List.nodup_cons, List.mem_cons, List.not_mem_nil, or_false, not_or] at h
  obtain ⟨h1, h2, h3, h4, h5, h6, h7, h8, -⟩ := h
  exact ⟨h1, h2, h3, h4, h5, h6, h7, h8⟩
section
variable {P : ToP} {w : World} {fb : List Nat} {p n : Nat} {s : RFS} {o : Obj} {e : Int} {N : Nms} {A A' : World}
theorem ToS.lt (h : ToS P w fb p n s o e N A) : ∀ i ∈ P.fix, i < A.heap.size := by
  intro i hi
  have key : ∀ {i : Nat} {o : Obj}, A.heap[i]? = some o → i < A.heap.size := fun h => (Array.getElem?_eq_some_iff.1 h).1
  simp only [ToP.fix, List.mem_cons, List.not_mem_nil, or_false] at hi
  rcases hi with rfl | rfl | rfl | rfl | rfl | rfl | rfl | rfl | rfl
  · exact key h.lp
  · exact key h.df
  · exact key h.x6
  · exact key h.x7
  · exact key h.xt
  · exact key h.bn
  · exact key h.tb
  · exact h.mp.lt
  · exact (own_lt h.nm rfl).2
theorem ToS.keep (h : ToS P w fb p n s o e N A) (hf : Fr [] A A') : ToS P w fb p n s o e N A' :=
  ⟨hf.obj h.lp (by simp), hf.obj h.df (by simp), hf.obj h.x6 (by simp), hf.obj h.x7 (by simp), hf.obj h.xt (by simp), hf.obj h.bn (by simp), hf.obj h.tb (by simp), own_fr h.nm hf (by simp), h.mp.fr hf (by simp), h.rf.fr hf (by simp), h.fr.trans hf, h.nd, h.new, h.ff⟩
theorem ToS.putL (h : ToS P w fb p n s o e N A) {o' : Obj} : ToS P w fb p n s o' e N (A.putObj P.l o') := by
  have hf : Fr [P.l] A (A.putObj P.l o') := (Fr.refl _ _).putObj (by simp) _
  obtain ⟨⟨a1, a2, a3, a4, a5, a6, a7, a8⟩, -⟩ := ToP.nd h.nd
  exact ⟨World.putObj_heap_same (Array.getElem?_eq_some_iff.1 h.lp).1, hf.obj h.df (by simpa using Ne.symm a1), hf.obj h.x6 (by simpa using Ne.symm a2), hf.obj h.x7 (by simpa using Ne.symm a3), hf.obj h.xt (by simpa using Ne.symm a4), hf.obj h.bn (by simpa using Ne.symm a5), hf.obj h.tb (by simpa using Ne.symm a6), own_fr h.nm hf (fun i hi hm => by
    have e1 : P.g = i := by simpa [Value.ownBlock] using hi
    simp at hm; rw [← e1] at hm; exact a8 hm.symm), h.mp.fr hf (by simpa using Ne.symm a7), h.rf.fr hf (fun i hi hm => by simp at hm; subst hm; exact h.ff _ hi (by simp [ToP.fix])), h.fr.next hf (fun i hi hlt => by simp at hi; have := h.new P.l (by simp [ToP.fix]); omega), h.nd, h.new, h.ff⟩
/-- an error is laid -/
theorem ToS.err (h : ToS P w fb p n s o e N A) (e' : Int) : ToS P w fb p n s o e' N ((A.setCell ⟨P.X6, 0, none⟩ (.pointer none)).setCell ⟨P.X7, 0, none⟩ (.int .i64 e')) := by
  have hf1 : Fr [P.X6, P.X7] A (A.setCell ⟨P.X6, 0, none⟩ (.pointer none)) := (Fr.refl _ _).setCell (by simp) _
  have hf2 : Fr [P.X6, P.X7] (A.setCell ⟨P.X6, 0, none⟩ (.pointer none)) ((A.setCell ⟨P.X6, 0, none⟩ (.pointer none)).setCell ⟨P.X7, 0, none⟩ (.int .i64 e')) := (Fr.refl _ _).setCell (by simp) _
  have hf := hf1.trans hf2
  obtain ⟨⟨a1, a2, a3, a4, a5, a6, a7, a8⟩, ⟨b1, b2, b3, b4, b5, b6, b7⟩, ⟨c1, c2, c3, c4, c5, c6⟩, ⟨d1, d2, d3, d4, d5⟩, -⟩ := ToP.nd h.nd
  have k : ∀ {i : Nat} {ob : Obj}, i ≠ P.X6 → i ≠ P.X7 → A.heap[i]? = some ob → ((A.setCell ⟨P.X6, 0, none⟩ (.pointer none)).setCell ⟨P.X7, 0, none⟩ (.int .i64 e')).heap[i]? = some ob := fun h1 h2 hh => hf.obj hh (by simp; exact ⟨h1, h2⟩)
  have x6 : (A.setCell ⟨P.X6, 0, none⟩ (.pointer none)).heap[P.X6]? = some (.cells #[.pointer none] 24) := by rw [heap_setCell_same _ _ 0 _ _ _ h.x6]; rfl
  have x7 : (A.setCell ⟨P.X6, 0, none⟩ (.pointer none)).heap[P.X7]? = some (.cells #[.int .i64 e] 25) := ((Fr.refl [P.X6] A).setCell (by simp) _).obj h.x7 (by simpa using Ne.symm c1)
  refine ⟨k a2 a3 h.lp, k b1 b2 h.df, ((Fr.refl [P.X7] _).setCell (by simp) _).obj x6 (by simpa using c1), by rw [heap_setCell_same _ _ 0 _ _ _ x7]; rfl, k (Ne.symm c2) (Ne.symm d1) h.xt, k (Ne.symm c3) (Ne.symm d2) h.bn, k (Ne.symm c4) (Ne.symm d3) h.tb, own_fr h.nm hf (fun i hi hm => ?_), h.mp.fr hf (by simp; exact ⟨Ne.symm c5, Ne.symm d4⟩), h.rf.fr hf (fun i hi hm => ?_), h.fr.next hf (fun i hi hlt => ?_), h.nd, h.new, h.ff⟩
  · have e1 : P.g = i := by simpa [Value.ownBlock] using hi
    simp at hm
    rcases hm with hm | hm
    · exact c6 (e1.trans hm).symm
    · exact d5 (e1.trans hm).symm
  · simp at hm
    rcases hm with rfl | rfl
    · exact h.ff _ hi (by simp [ToP.fix])
    · exact h.ff _ hi (by simp [ToP.fix])
  · have h1 := h.new P.X6 (by simp [ToP.fix])
    have h2 := h.new P.X7 (by simp [ToP.fix])
    simp at hi
    omega
/-- a name is laid -/
theorem ToS.name (h : ToS P w fb p n s o e N A) {k : Nat} {v : Value} {l : List UInt8} (hv : v = Str l) {o1 o2 : Obj} (hm : MapT (((A.setCell ⟨P.g, k, none⟩ v).putObj P.mb o1).putObj P.mb o2) P.mb (N.set k l)) :
    ToS P w fb p n s o e (N.set k l) (((A.setCell ⟨P.g, k, none⟩ v).putObj P.mb o1).putObj P.mb o2) := by
  have hf1 : Fr [P.g, P.mb] A (A.setCell ⟨P.g, k, none⟩ v) := (Fr.refl _ _).setCell (by simp) _
  have hf2 : Fr [P.g, P.mb] (A.setCell ⟨P.g, k, none⟩ v) ((A.setCell ⟨P.g, k, none⟩ v).putObj P.mb o1) := (Fr.refl _ _).putObj (by simp) _
  have hf3 : Fr [P.g, P.mb] ((A.setCell ⟨P.g, k, none⟩ v).putObj P.mb o1) (((A.setCell ⟨P.g, k, none⟩ v).putObj P.mb o1).putObj P.mb o2) := (Fr.refl _ _).putObj (by simp) _
  have hf := (hf1.trans hf2).trans hf3
  obtain ⟨⟨a1, a2, a3, a4, a5, a6, a7, a8⟩, ⟨b1, b2, b3, b4, b5, b6, b7⟩, ⟨c1, c2, c3, c4, c5, c6⟩, ⟨d1, d2, d3, d4, d5⟩, ⟨f1, f2, f3, f4⟩, ⟨g1, g2, g3⟩, ⟨i1, i2⟩, j1⟩ := ToP.nd h.nd
  have kk : ∀ {i : Nat} {ob : Obj}, i ≠ P.mb → i ≠ P.g → A.heap[i]? = some ob → (((A.setCell ⟨P.g, k, none⟩ v).putObj P.mb o1).putObj P.mb o2).heap[i]? = some ob := fun h1 h2 hh => hf.obj hh (by simp; exact ⟨h2, h1⟩)
  refine ⟨kk a7 a8 h.lp, kk b6 b7 h.df, kk c5 c6 h.x6, kk d4 d5 h.x7, kk f3 f4 h.xt, kk g2 g3 h.bn, kk i1 i2 h.tb, ?_, hm, h.rf.fr hf (fun i hi hm => ?_), h.fr.next hf (fun i hi hlt => ?_), h.nd, h.new, h.ff⟩
  · have h1 := own_set2 h.nm k v
    rw [show (N.map Str).set k v = (N.set k l).map Str by rw [List.map_set, hv]] at h1
    have hq : ∀ {o1 : Obj} (W : World), Fr [P.mb] W (W.putObj P.mb o1) := fun W => (Fr.refl _ _).putObj (by simp) _
    have ho : ∀ i, (Value.slice (some ⟨P.g, 0, none⟩) n n).ownBlock = some i → i ∉ [P.mb] := fun i hi hm => by
      have e1 : P.g = i := by simpa [Value.ownBlock] using hi
      simp at hm
      exact j1 (e1.trans hm).symm
    exact own_fr (own_fr h1 (hq _) ho) (hq _) ho
  · simp at hm
    rcases hm with rfl | rfl
    · exact h.ff _ hi (by simp [ToP.fix])
    · exact h.ff _ hi (by simp [ToP.fix])
  · have h1 := h.new P.g (by simp [ToP.fix])
    have h2 := h.new P.mb (by simp [ToP.fix])
    simp at hi
    omega
/-- the loop has ended: the table is given -/
theorem ToS.fin (h : ToS P w fb p n s o e N A) (hN : NOk N) (hl : N.length = n) (hz : s.sz = 42) (hR : s.R = recsT N) :
    ((A.setCell ⟨P.X6, 0, none⟩ (.pointer (some ⟨P.t, 0, none⟩))).setCell ⟨P.X7, 0, none⟩ (.int .i64 0)).heap[P.D]? = some (.deferred (some [])) ∧
    (((A.setCell ⟨P.X6, 0, none⟩ (.pointer (some ⟨P.t, 0, none⟩))).setCell ⟨P.X7, 0, none⟩ (.int .i64 0)).putObj P.D (.deferred none)).heap[P.X6]? = some (.cells #[.pointer (some ⟨P.t, 0, none⟩)] 24) ∧
    (((A.setCell ⟨P.X6, 0, none⟩ (.pointer (some ⟨P.t, 0, none⟩))).setCell ⟨P.X7, 0, none⟩ (.int .i64 0)).putObj P.D (.deferred none)).heap[P.X7]? = some (.cells #[.int .i64 0] 25) ∧
    Fr [] w (((A.setCell ⟨P.X6, 0, none⟩ (.pointer (some ⟨P.t, 0, none⟩))).setCell ⟨P.X7, 0, none⟩ (.int .i64 0)).putObj P.D (.deferred none)) ∧
    TBH (((A.setCell ⟨P.X6, 0, none⟩ (.pointer (some ⟨P.t, 0, none⟩))).setCell ⟨P.X7, 0, none⟩ (.int .i64 0)).putObj P.D (.deferred none)) w.heap.size P.t p P.mb (.slice (some ⟨P.g, 0, none⟩) n n) fb s N := by
  have hf1 : Fr [P.D, P.X6, P.X7] A (A.setCell ⟨P.X6, 0, none⟩ (.pointer (some ⟨P.t, 0, none⟩))) := (Fr.refl _ _).setCell (by simp) _
  have hf2 : Fr [P.D, P.X6, P.X7] (A.setCell ⟨P.X6, 0, none⟩ (.pointer (some ⟨P.t, 0, none⟩))) ((A.setCell ⟨P.X6, 0, none⟩ (.pointer (some ⟨P.t, 0, none⟩))).setCell ⟨P.X7, 0, none⟩ (.int .i64 0)) := (Fr.refl _ _).setCell (by simp) _
  have hf3 : Fr [P.D, P.X6, P.X7] ((A.setCell ⟨P.X6, 0, none⟩ (.pointer (some ⟨P.t, 0, none⟩))).setCell ⟨P.X7, 0, none⟩ (.int .i64 0)) (((A.setCell ⟨P.X6, 0, none⟩ (.pointer (some ⟨P.t, 0, none⟩))).setCell ⟨P.X7, 0, none⟩ (.int .i64 0)).putObj P.D (.deferred none)) := (Fr.refl _ _).putObj (by simp) _
  have hf := (hf1.trans hf2).trans hf3
  obtain ⟨⟨a1, a2, a3, a4, a5, a6, a7, a8⟩, ⟨b1, b2, b3, b4, b5, b6, b7⟩, ⟨c1, c2, c3, c4, c5, c6⟩, ⟨d1, d2, d3, d4, d5⟩, -, -, ⟨i1, i2⟩, j1⟩ := ToP.nd h.nd
  have x6 : (A.setCell ⟨P.X6, 0, none⟩ (.pointer (some ⟨P.t, 0, none⟩))).heap[P.X6]? = some (.cells #[.pointer (some ⟨P.t, 0, none⟩)] 24) := by rw [heap_setCell_same _ _ 0 _ _ _ h.x6]; rfl
  have x7 : (A.setCell ⟨P.X6, 0, none⟩ (.pointer (some ⟨P.t, 0, none⟩))).heap[P.X7]? = some (.cells #[.int .i64 e] 25) := ((Fr.refl [P.X6] A).setCell (by simp) _).obj h.x7 (by simpa using Ne.symm c1)
  have y6 := ((Fr.refl [P.X7] (A.setCell ⟨P.X6, 0, none⟩ (.pointer (some ⟨P.t, 0, none⟩)))).setCell (p := ⟨P.X7, 0, none⟩) (by simp) (.int .i64 0)).obj x6 (by simpa using c1)
  have y7 : ((A.setCell ⟨P.X6, 0, none⟩ (.pointer (some ⟨P.t, 0, none⟩))).setCell ⟨P.X7, 0, none⟩ (.int .i64 0)).heap[P.X7]? = some (.cells #[.int .i64 0] 25) := by rw [heap_setCell_same _ _ 0 _ _ _ x7]; rfl
  refine ⟨?_, by rw [World.putObj_heap_other (Ne.symm b1)]; exact y6, by rw [World.putObj_heap_other (Ne.symm b2)]; exact y7, h.fr.next hf (fun i hi hlt => ?_), ⟨hf.obj h.tb (by simp; exact ⟨Ne.symm b5, Ne.symm c4, Ne.symm d3⟩), h.rf.fr hf (fun i hi hm => ?_), ?_, h.mp.fr hf (by simp; exact ⟨Ne.symm b6, Ne.symm c5, Ne.symm d4⟩), hN, hz, hR, h.new _ (by simp [ToP.fix]), h.new _ (by simp [ToP.fix]), fun hm => h.ff _ hm (by simp [ToP.fix]), fun hm => h.ff _ hm (by simp [ToP.fix]), i1, fun i hi => ?_⟩⟩
  · exact ((Fr.refl [P.X7] _).setCell (by simp) _).obj (((Fr.refl [P.X6] A).setCell (by simp) _).obj h.df (by simpa using b1)) (by simpa using b2)
  · have h1 := h.new P.X6 (by simp [ToP.fix])
    have h2 := h.new P.X7 (by simp [ToP.fix])
    have h3 := h.new P.D (by simp [ToP.fix])
    simp at hi
    omega
  · simp at hm
    rcases hm with rfl | rfl | rfl <;> exact h.ff _ hi (by simp [ToP.fix])
  · rw [hl]
    exact own_fr h.nm hf (fun i hi hm => by
      have e1 : P.g = i := by simpa [Value.ownBlock] using hi
      simp at hm
      rw [← e1] at hm
      rcases hm with hm | hm | hm
      · exact b7 hm.symm
      · exact c6 hm.symm
      · exact d5 hm.symm)
  · have e1 : P.g = i := by simpa [Value.ownBlock] using hi
    rw [← e1]
    exact ⟨Ne.symm i2, Ne.symm j1, fun hm => h.ff _ hm (by simp [ToP.fix])⟩
/-- the loop was left -/
theorem ToS.left (h : ToS P w fb p n s o e N A) : (A.putObj P.D (.deferred none)).heap[P.X6]? = some (.cells #[.pointer none] 24) ∧ (A.putObj P.D (.deferred none)).heap[P.X7]? = some (.cells #[.int .i64 e] 25) ∧ Fr [] w (A.putObj P.D (.deferred none)) := by
  obtain ⟨-, ⟨b1, b2, -⟩, -⟩ := ToP.nd h.nd
  refine ⟨by rw [World.putObj_heap_other (Ne.symm b1)]; exact h.x6, by rw [World.putObj_heap_other (Ne.symm b2)]; exact h.x7, h.fr.next ((Fr.refl [P.D] _).putObj (by simp) _) (fun i hi hlt => ?_)⟩
  have h3 := h.new P.D (by simp [ToP.fix])
  simp at hi
  omega
/-- between two rounds -/
def OtJ (P : ToP) (w : World) (fb : List Nat) (p n : Nat) (s : RFS) (o : Obj) (R : Recs) (id : Nat) (A : World) : Prop :=
  id ≤ n ∧ errT [] R = errT (upT R id) (R.drop id) ∧ NOk (upT R id ++ List.replicate (n - id) []) ∧ ToS P w fb p n s o 0 (upT R id ++ List.replicate (n - id) []) A
/-- where the loop was left -/
def OtX (P : ToP) (w : World) (fb : List Nat) (p n : Nat) (s : RFS) (o : Obj) (R : Recs) (A : World) : Prop :=
  errT [] R ≠ 0 ∧ ∃ N', ToS P w fb p n s o (errT [] R) N' A
end
theorem load_pT {w : World} {b : Nat} {v : Value} {T : Nat} (h : w.heap[b]? = some (.cells #[v] T)) : (loadVar 24 ⟨b, 0, none⟩).run Tryd.prog w = .ok v w := by
  have hc := cell_of_row w b 0 _ _ _ h
  simp at hc
  simp [loadVar, go_sem, hc]
theorem load_eT {w : World} {b : Nat} {v : Value} {T : Nat} (h : w.heap[b]? = some (.cells #[v] T)) : (loadVar 25 ⟨b, 0, none⟩).run Tryd.prog w = .ok v w := by
  have hc := cell_of_row w b 0 _ _ _ h
  simp at hc
  simp [loadVar, go_sem, hc]
theorem no_mark_retT {P : Program} {n : Nat} {fn : Func} {R : Ending → World → Prop} {tmps : Array Value} {W : World} {v : Value} (hr : (results fn tmps).run P W = .ok v W) (hR : R (.returned v) W) :
    bodyPostM Fence.wide n P fn R .ret { tmps := tmps, defers := [] } W := ⟨v, hr, hR⟩
theorem results_c2T {P : Program} {fn : Func} {p q : Tmp} {ty t2 : TypeId} (h : fn.results = #[.cell p ty, .cell q t2]) (tmps : Array Value) (w : World) (a b : Addr) (x y : Value)
    (hp : tmps.getD p undef = .pointer (some a)) (hq : tmps.getD q undef = .pointer (some b)) (h1 : (loadVar ty a).run P w = .ok x w) (h2 : (loadVar t2 b).run P w = .ok y w) :
    (results fn tmps).run P w = .ok (.tuple #[x, y]) w := by
  have key : (results fn tmps).run P w = ((asAddr (tmps.getD p undef)).run P w).andThen fun a w₁ => ((loadVar ty a).run P w₁).andThen fun x w₂ => ((asAddr (tmps.getD q undef)).run P w₂).andThen fun b w₃ => ((loadVar t2 b).run P w₃).andThen fun y w₄ => .ok (.tuple #[x, y]) w₄ := by
    simp only [results, h]
    simp [Sem.run_bind, Result.andThen]
  rw [key, hp, hq]
  simp [asAddr, h1, h2]
/-- what Open gives -/
def OpenTG (w w' : World) (e : Ending) (b : List UInt8) (kd vr : Int) : Prop :=
  (∃ E, openT b kd vr = .error E ∧ e = .returned (.tuple #[.pointer none, .int .i64 E]) ∧ Fr [] w w') ∨
  (∃ N t bs, openT b kd vr = .ok N ∧ wrongB kd vr = false ∧ e = .returned (.tuple #[.pointer (some ⟨t, 0, none⟩), .int .i64 0]) ∧ TB w.heap.size bs w' t kd.toNat vr.toNat N ∧ Fr [] w w')
/-- Open's way out ahead of its loop -/
theorem openT_err {w w1 : World} {E : Int} {b : List UInt8} {kd vr : Int} {n : Nat} {tmps : Array Value} (he : openT b kd vr = .error E) (a1 : w1.heap[w.heap.size]? = some (.cells #[.pointer none] 24)) (a2 : w1.heap[w.heap.size + 1]? = some (.cells #[.int .i64 0] 25)) (hf : Fr [] w w1)
    (hp : tmps.getD 6 undef = .pointer (some ⟨w.heap.size, 0, none⟩)) (hq : tmps.getD 7 undef = .pointer (some ⟨w.heap.size + 1, 0, none⟩)) :
    bodyPostM Fence.wide n Tryd.prog Tryd.f16 (fun e w' => OpenTG w w' e b kd vr) .ret { tmps := tmps, defers := [] } ((w1.setCell ⟨w.heap.size, 0, none⟩ (.pointer none)).setCell ⟨w.heap.size + 1, 0, none⟩ (.int .i64 E)) := by
  have x6 : (w1.setCell ⟨w.heap.size, 0, none⟩ (.pointer none)).heap[w.heap.size]? = some (.cells #[.pointer none] 24) := by rw [heap_setCell_same _ _ 0 _ _ _ a1]; rfl
  have x7 : (w1.setCell ⟨w.heap.size, 0, none⟩ (.pointer none)).heap[w.heap.size + 1]? = some (.cells #[.int .i64 0] 25) := ((Fr.refl [w.heap.size] w1).setCell (by simp) _).obj a2 (by simp)
  have y6 := ((Fr.refl [w.heap.size + 1] (w1.setCell ⟨w.heap.size, 0, none⟩ (.pointer none))).setCell (p := ⟨w.heap.size + 1, 0, none⟩) (by simp) (.int .i64 E)).obj x6 (by simp)
  have y7 : ((w1.setCell ⟨w.heap.size, 0, none⟩ (.pointer none)).setCell ⟨w.heap.size + 1, 0, none⟩ (.int .i64 E)).heap[w.heap.size + 1]? = some (.cells #[.int .i64 E] 25) := by rw [heap_setCell_same _ _ 0 _ _ _ x7]; rfl
  refine no_mark_retT (results_c2T rfl _ _ ⟨w.heap.size, 0, none⟩ ⟨w.heap.size + 1, 0, none⟩ _ _ hp hq (load_pT y6) (load_eT y7)) ?_
  exact .inl ⟨E, he, rfl, (hf.setCell (p := ⟨w.heap.size, 0, none⟩) (fun h => absurd h (by simp)) _).setCell (p := ⟨w.heap.size + 1, 0, none⟩) (fun h => absurd h (by simp)) _⟩
end Go.Proofs.YtlckhfjkdahfpaaDoor
