/- Tokens: Forget. -/
import Derived.Test.YtlckhfjkdahfpaaDoorTkC
namespace Go.Proofs.YtlckhfjkdahfpaaDoor
open Go.RowKit Go.Maps
attribute [local go_sem ↓] Go.wp_at_zero Go.wp_at_succ
attribute [local go_sem] Oper.semAt_some
theorem usedT (N : Nms) (id : Int) : usedR (recsT N) id = (nameN N id != []) := by
  by_cases h : id < 0
  · rw [usedR_neg h]
    unfold nameN
    rw [if_pos h]
    rfl
  · obtain ⟨k, rfl⟩ : ∃ k : Nat, id = k := ⟨id.toNat, by omega⟩
    rw [usedR_nat, recsT_get, recT_some]
    unfold nameN
    rw [if_neg h, Int.toNat_natCast]
/-- a table whose file has turned -/
theorem TBH.over {w w2 : World} {B t p mb : Nat} {v : Value} {fb fb2 : List Nat} {s s2 : RFS} {N : Nms} (h : TBH w B t p mb v fb s N) (hr : RF B fb2 w2 p s2) (hs : Stp fb w fb2 w2) :
    w2.heap[t]? = some (.cells #[.pointer (some ⟨p, 0, none⟩), v, .map (some mb)] 68) ∧ w2.ownsRow B 9 1 v N.length (N.map Str) ∧ MapT w2 mb N ∧ t ∉ fb2 ∧ mb ∉ fb2 ∧ (∀ g, v.ownBlock = some g → g ∉ fb2) ∧ Stp (tbB t mb v fb) w (tbB t mb v fb2) w2 := by
  refine ⟨hs.1.obj h.obj h.d1, own_fr h.nms hs.1 (fun g hg => (h.d4 g hg).2.2), h.map.fr hs.1 h.d2, fun hm => ?_, fun hm => ?_, fun g hg hm => ?_, hs.1.mono fun i hi _ => tbB_f hi, fun i hi => ?_⟩
  · rcases hs.2 _ hm with h1 | h1
    · exact h.d1 h1
    · have := (h.lt t (tbB_t ..)).2; omega
  · rcases hs.2 _ hm with h1 | h1
    · exact h.d2 h1
    · have := (h.lt mb (tbB_m ..)).2; omega
  · rcases hs.2 _ hm with h1 | h1
    · exact (h.d4 g hg).2.2 h1
    · have := (h.lt g (tbB_v hg)).2; omega
  · rcases tbB_cases hi with rfl | rfl | h1 | h1
    · exact .inl (tbB_t ..)
    · exact .inl (tbB_m ..)
    · exact .inl (tbB_v h1)
    · rcases hs.2 i h1 with h2 | h2
      · exact .inl (tbB_f h2)
      · exact .inr h2
set_option maxRecDepth 100000 in
set_option maxHeartbeats 1600000 in
theorem Forget_T (B : Nat) (bs : List Nat) (w : World) (t kd vr : Nat) (N : Nms) (id : Int) (h : TB B bs w t kd vr N) :
    Calls Tryd.prog 18 #[.pointer (some ⟨t, 0, none⟩), .int .i64 id] w fun e w' => e = .returned (.int .i64 (forgetE N id)) ∧ ∃ bs', TB B bs' w' t kd vr (forgetS N id) ∧ Stp bs w bs' w' := by
  obtain ⟨p, mb, v, fb, s, hh, hk, hv, rfl⟩ := h
  obtain ⟨x0, x1, x2⟩ := trioT hh.obj
  have HF := Lib.hid (Free_F B fb w p s id hh.file)
  have hus : usedR s.R id = (nameN N id != []) := by rw [hh.recs, usedT]
  have HH := Lib.hid hh
  have HKV := Lib.hid (show s.kd = kd ∧ s.vr = vr from ⟨hk, hv⟩)
  clear hh hk hv
  by_cases hz : nameN N id = []
  · have hu : usedR s.R id = false := by rw [hus, hz]; rfl
    have HI : Hid (forgetE N id = 3 ∧ forgetS N id = N) := Lib.hid ⟨by unfold forgetE; rw [if_pos hz], by unfold forgetS; rw [if_pos hz]⟩
    rw [show freE s id = 3 from if_neg (by rw [hu]; decide), show freS s id = s from if_neg (by rw [hu]; decide)] at HF
    clear hus hz hu
    go_enter Tryd.func18, Tryd.ntmps18
    go_wp2_with fail
    refine HF.out.mono ?_
    rintro e w2 ⟨rfl, fb2, h2, s2⟩
    have HO := Lib.hid (HH.out.over h2 s2)
    have H2 := Lib.hid h2
    clear h2 s2
    go_wp2_with fail
    go_ret
    obtain ⟨o1, o2, o3, o4, o5, o6, o7⟩ := HO.out
    exact ⟨by rw [HI.out.1]; rfl, _, by rw [HI.out.2]; exact ⟨p, mb, v, fb2, s, ⟨o1, H2.out, o2, o3, HH.out.ok, HH.out.sz, HH.out.recs, HH.out.bt, HH.out.bm, o4, o5, HH.out.d3, fun g hg => ⟨(HH.out.d4 g hg).1, (HH.out.d4 g hg).2.1, o6 g hg⟩⟩, HKV.out.1, HKV.out.2, rfl⟩, o7⟩
  · have hu : usedR s.R id = true := by rw [hus]; exact bne_iff_ne.2 hz
    have h0 : ¬ id < 0 := fun h => hz (by unfold nameN; rw [if_pos h])
    obtain ⟨k, rfl⟩ : ∃ k : Nat, id = k := ⟨id.toNat, by omega⟩
    have hnk : nameN N (k : Int) = N.getD k [] := by unfold nameN; rw [if_neg h0, Int.toNat_natCast]
    rw [hnk] at hz
    have HI : Hid (forgetE N k = 0 ∧ forgetS N k = N.set k []) := Lib.hid ⟨by unfold forgetE; rw [hnk, if_neg hz], by unfold forgetS; rw [hnk, if_neg hz, Int.toNat_natCast]⟩
    rw [show freE s k = 0 from if_pos hu] at HF
    obtain ⟨s2, hs2⟩ : ∃ s2, s2 = freS s k := ⟨_, rfl⟩
    have HS2 : Hid (s2.kd = s.kd ∧ s2.vr = s.vr ∧ s2.sz = 42 ∧ s2.R = recsT (N.set k [])) := Lib.hid (by
      have e : freS s k = { s with R := freeR s.R k, low := min s.low k } := by unfold freS; rw [if_pos hu, Int.toNat_natCast]
      rw [hs2, e]
      exact ⟨rfl, rfl, HH.out.sz, by rw [HH.out.recs]; exact recsT_free⟩)
    rw [← hs2] at HF
    have hkl := getD_ne hz
    have HZ := Lib.hid hz
    obtain ⟨m, hm⟩ : ∃ m, m = N.length := ⟨_, rfl⟩
    rw [← hm] at hkl
    have hm200 : m ≤ 200 := by rw [hm]; exact HH.out.ok.len
    have HMM := Lib.hid hm
    clear hus hu hnk hz hs2 h0 hm
    go_enter Tryd.func18, Tryd.ntmps18
    go_wp2_with fail
    refine HF.out.mono ?_
    rintro e w2 ⟨rfl, fb2, h2, s2'⟩
    have HO := Lib.hid (HH.out.over h2 s2')
    have H2 := Lib.hid h2
    clear h2 s2' x0 x1 x2 HF
    go_upto_region 3 with fail
    obtain ⟨y0, y1, y2⟩ := trioT HO.out.1
    obtain ⟨W, hW⟩ : ∃ W, W = w2.drew := ⟨_, rfl⟩
    have hfd : Fr [] w2 W := by rw [hW]; exact (Fr.refl [] w2).drew
    have hob := hfd.obj HO.out.1 (by simp)
    obtain ⟨x0, x1, x2⟩ := trioT hob
    have hnm := own_fr HO.out.2.1 hfd (by simp)
    obtain ⟨g, c, hvv, hcl, hcf⟩ := own_strC hnm (k := k) (by rw [← HMM.out]; exact hkl)
    rw [← HMM.out] at hvv
    subst hvv
    have hcl2 : w2.cell? ⟨g, k, none⟩ = some (Str (N.getD k [])) := by rw [hW] at hcl; exact hcl
    have HCF := Lib.hid hcf
    obtain ⟨w3, hrun, hf3, hm3⟩ := (HO.out.2.2.1.fr hfd (by simp)).del HH.out.ok HZ.out 0
    obtain ⟨l, hl⟩ : ∃ l, l = N.getD k [] := ⟨_, rfl⟩
    rw [← hl] at hrun hcl2
    have HL := Lib.hid hl
    have HS : Hid (Str l = .string ⟨l.toArray⟩) := Lib.hid rfl
    rw [HS.out] at hcl2
    generalize ByteArray.mk l.toArray = S at hcl2 hrun HS
    clear hl
    clear hcl hcf x0 x1 x2
    have hk0 : (0 : Int) ≤ (k : Int) := by omega
    have hki : (k : Int) < (m : Int) := by omega
    have HFD := Lib.hid hfd
    have HF3 := Lib.hid hf3
    have HM3 := Lib.hid hm3
    have HOB := Lib.hid hob
    have HNM := Lib.hid hnm
    go_still_tail 11, (by kernel_rfl)
    change wpList _ _ _ _ _ w2.drew
    rw [← hW]
    clear hW hfd hf3 hm3 hob hnm
    go_upto_region 4 with fail
    have hg := (HH.out.d4 g rfl)
    have hob3 := HF3.out.obj HOB.out (by simp; exact HH.out.d3)
    have hnm3 := own_fr HNM.out HF3.out (fun g' hg' hm => by
      have : g = g' := by simpa [Value.ownBlock] using hg'
      simp at hm; rw [← this] at hm; exact hg.2.1 hm)
    obtain ⟨x0, x1, x2⟩ := trioT hob3
    obtain ⟨g', c', e', z3, z4⟩ := own_strC hnm3 (k := k) (by rw [← HMM.out]; exact hkl)
    simp only [Value.slice.injEq, Option.some.injEq, Addr.mk.injEq] at e'
    obtain ⟨⟨rfl, -⟩, -, -⟩ := e'
    have HS4 : Hid (∀ x, ∃ ss, Str x = Value.string ss) := Lib.hid fun x => ⟨_, rfl⟩
    obtain ⟨ss, hss⟩ := HS4.out (N.getD k [])
    rw [hss] at z3
    have hfs : Fr [g] w3 (w3.setCell ⟨g, k, none⟩ (.string ⟨#[]⟩)) := (Fr.refl [g] w3).setCell (by simp) _
    have HFS := Lib.hid hfs
    have HNM3 := Lib.hid hnm3
    have HOB3 := Lib.hid hob3
    clear hss hfs hnm3 hob3
    go_wp2_with fail
    go_ret
    obtain ⟨o1, o2, o3, o4, o5, o6, o7⟩ := HO.out
    have htg : t ∉ [g] := by simp; exact fun e => hg.1 e.symm
    have hmg : mb ∉ [g] := by simp; exact fun e => hg.2.1 e.symm
    refine ⟨by rw [HI.out.1]; rfl, tbB t mb (.slice (some ⟨g, 0, none⟩) m c) fb2, ?_, ⟨?_, o7.2⟩⟩
    · rw [HI.out.2]
      refine ⟨p, mb, .slice (some ⟨g, 0, none⟩) m c, fb2, s2, ⟨HFS.out.obj HOB3.out htg, (((H2.out.keep HFD.out).fr HF3.out (fun i hi hm => by simp at hm; subst hm; exact o5 hi)).fr HFS.out (fun i hi hm => by simp at hm; subst hm; exact o6 i rfl hi)), ?_, HM3.out.fr HFS.out hmg, HH.out.ok.free k, HS2.out.2.2.1, HS2.out.2.2.2, HH.out.bt, HH.out.bm, o4, o5, HH.out.d3, fun g' hg' => ⟨(HH.out.d4 g' hg').1, (HH.out.d4 g' hg').2.1, o6 g' hg'⟩⟩, HS2.out.1.trans HKV.out.1, HS2.out.2.1.trans HKV.out.2, rfl⟩
      have h1 := own_set2 HNM3.out k (.string ⟨#[]⟩)
      rw [show (N.map Str).set k (.string ⟨#[]⟩) = (N.set k []).map Str by rw [List.map_set]; rfl] at h1
      rw [List.length_set, ← HMM.out]
      rw [← HMM.out] at h1
      exact h1
    · refine (((o7.1.trans (HFD.out.mono (by simp))).trans (HF3.out.mono fun i hi _ => ?_)).trans (HFS.out.mono fun i hi _ => ?_))
      · simp at hi; rw [hi]; exact tbB_m ..
      · simp at hi; rw [hi]; exact tbB_v rfl
end Go.Proofs.YtlckhfjkdahfpaaDoor
