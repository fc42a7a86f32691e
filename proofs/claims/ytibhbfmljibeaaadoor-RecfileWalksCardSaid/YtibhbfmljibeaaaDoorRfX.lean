/- Record files: one call on both files (step). -/
import Derived.Test.YtibhbfmljibeaaaDoorRfU
namespace Go.Proofs.YtibhbfmljibeaaaDoor
open Go.RowKit
attribute [local go_sem ↓] Go.wp_at_zero Go.wp_at_succ
/-- the program's file and the document's, apart from each other -/
structure Pair (B C : Nat) (w : World) (p q : Nat) (bs cs : List Nat) (s : RFS) : Prop where
  f : RF B bs w p s
  m : MF C cs w q s
  ap : ∀ i ∈ bs, i ∉ cs
theorem Pair.keep {B C p q : Nat} {bs cs : List Nat} {s : RFS} {w w' : World} (h : Pair B C w p q bs cs s) (hf : Fr [] w w') : Pair B C w' p q bs cs s := ⟨h.f.keep hf, h.m.keep hf, h.ap⟩
theorem Pair.prog {B C p q : Nat} {bs cs bs' : List Nat} {s s1 : RFS} {w w1 : World} (h : Pair B C w p q bs cs s) (h1 : RF B bs' w1 p s1) (hs : Stp bs w bs' w1) : MF C cs w1 q s ∧ ∀ i ∈ bs', i ∉ cs :=
  ⟨h.m.fr hs.1 fun i hi hm => h.ap i hm hi, hs.apart h.ap fun i hi => (h.m.lt i hi).2⟩
theorem Pair.doc {B C p q : Nat} {cs bs' cs' : List Nat} {s1 : RFS} {w1 w2 : World} (h1 : RF B bs' w1 p s1) (ap : ∀ i ∈ bs', i ∉ cs) (h2 : MF C cs' w2 q s1) (hs : Stp cs w1 cs' w2) : Pair B C w2 p q bs' cs' s1 :=
  ⟨h1.fr hs.1 ap, h2, hs.apart' ap fun i hi => (h1.lt i hi).2⟩
/-- what one call leaves -/
def PairG (B C p q : Nat) (bs cs : List Nat) (w w' : World) : Prop := ∃ bs' cs' s', Pair B C w' p q bs' cs' s' ∧ Fr (bs ++ cs) w w'
theorem PairG.same {B C p q : Nat} {bs cs : List Nat} {s : RFS} {w w' : World} (h : Pair B C w p q bs cs s) (hf : Fr [] w w') : PairG B C p q bs cs w w' := ⟨bs, cs, s, h.keep hf, hf.mono (by simp)⟩
theorem fr_both {bs cs : List Nat} {w w1 w2 : World} (h1 : Fr bs w w1) (h2 : Fr cs w1 w2) : Fr (bs ++ cs) w w2 :=
  (h1.mono fun i hi _ => List.mem_append_left _ hi).next h2 fun i hi _ => List.mem_append_right _ hi
theorem fr_new {w w1 w2 : World} {S : List Nat} (h1 : Fr [] w w1) (h2 : Fr S w1 w2) (hS : ∀ i ∈ S, w.heap.size ≤ i) : Fr [] w w2 := h1.next h2 fun i hi hlt => by have := hS i hi; omega
set_option maxRecDepth 100000 in
set_option maxHeartbeats 6400000 in
theorem step9_any (B C : Nat) (bs cs : List Nat) (w : World) (p q : Nat) (s : RFS) (kd id : Int) (oa : Option Addr) (oc : Nat) (od : List UInt8) (h : Pair B C w p q bs cs s) (hol : od.length ≤ 140737488351232) (hono : oa = none → oc = 0) (hob : Bytes w oa od) (hn : Nib w) :
    Calls Tryd.prog 29 #[.pointer (some ⟨p, 0, none⟩), .pointer (some ⟨q, 0, none⟩), .agg #[.int .i64 kd, .int .i64 id, .slice oa od.length oc]] w fun e w' => e = .returned (.bool true) ∧ PairG B C p q bs cs w w' := by
  have HN := Lib.hid hn
  have HH := Lib.hid h
  have HOB := Lib.hid hob
  have HONO := Lib.hid hono
  obtain ⟨j, hj, ej⟩ := mask7 kd
  obtain ⟨wb, hwb⟩ : ∃ wb, wb = w.alloc (.cells #[.int .i64 kd, .int .i64 id, .slice oa od.length oc] 43) := ⟨_, rfl⟩
  have hbx : wb.heap[w.heap.size]? = some (.cells #[.int .i64 kd, .int .i64 id, .slice oa od.length oc] 43) := by rw [hwb]; exact heap_alloc_new w _
  have hfb : Fr [] w wb := by rw [hwb]; exact (Fr.refl _ _).alloc _
  have HBX := Lib.hid hbx
  have HFB := Lib.hid hfb
  have HB := Lib.hid (h.keep hfb)
  obtain ⟨b0, b1, b2⟩ := trio hbx
  have HWB := Lib.hid hwb
  have HLT : Hid (∀ i ∈ bs ++ cs, i < w.heap.size) := Lib.hid fun i hi => by
    rcases List.mem_append.1 hi with hi | hi
    · exact (h.f.lt i hi).2
    · exact (h.m.lt i hi).2
  have hono_ := hono
  clear h hob hono hn hwb hbx hfb
  go_enter Tryd.func29, Tryd.ntmps29
  go_upto_region 1 with fail
  rw [← HWB.out]
  clear HWB
  by_cases h012 : j = 0 ∨ j = 1 ∨ j = 2
  · have HCL := Lib.hid (clone_any oa oc od wb (by omega) hono_ (HOB.out.keep HFB.out))
    have hmq : ∃ y0 y1 y3, wb.heap[q]? = some (.cells #[y0, y1, .int .i64 s.sz, y3] 67) := by
      obtain ⟨v, X, hh, -⟩ := HB.out.m
      exact ⟨_, _, _, hh.obj⟩
    obtain ⟨y0, y1, y3, hmq⟩ := hmq
    have HMQ := Lib.hid hmq
    have hlo := HB.out.m.ok.lo
    have hhi := HB.out.m.ok.hi
    clear hmq
    rcases h012 with rfl | rfl | rfl
    all_goals
      go_wp2_with fail
      refine HCL.out.mono ?_
      rintro e w1 ⟨v1, rfl, hv1⟩
      obtain ⟨g1, c1, rfl, hg1, hg1l, hb1, hf1⟩ := hv1.bytes
      have HB1 := Lib.hid hb1
      have HF1 := Lib.hid hf1
      have HG1 := Lib.hid (show wb.heap.size ≤ g1 from hg1)
      have HG1L := Lib.hid hg1l
      have d1 := hf1.cell b1 (by simp)
      have d2 := hf1.cell b2 (by simp)
      clear hv1 hb1 hf1 hg1 hg1l b0 b1 b2
      by_cases h1 : od.length = 1
      · have h1i : ((od.length : Int) == 1) = true := by rw [beq_iff_eq]; omega
        have h1n : (od.length == 1) = true := by rw [beq_iff_eq]; exact h1
        obtain ⟨ob, oo, rfl, hoc⟩ := HOB.out.at (by omega)
        obtain ⟨x, hx⟩ : ∃ x, x = od.getD 0 0 := ⟨_, rfl⟩
        have HXC : Hid (w.cell? ⟨ob, oo, none⟩ = some (.int .u8 (I8 x))) := Lib.hid (by have h := hoc 0 (by omega); rw [hx]; exact h)
        have HO1 := Lib.hid h1
        have HD2 := Lib.hid d2
        clear hoc hx
        go_wp2_with fail
        obtain ⟨wz, hwz⟩ : ∃ wz, wz = w1.alloc (.cells #[] 5) := ⟨_, rfl⟩
        rw [← hwz]
        have HGZ := Lib.hid (show Grow [] w1 wz (.slice (some ⟨w1.heap.size, 0, none⟩) 0 0) [] by rw [hwz]; exact ⟨own_empty w1 5, by simp, fun _ h => (List.not_mem_nil h).elim, (Fr.refl _ _).alloc _⟩)
        clear hwz h1 h1i h1n d1 d2
        go_loopw [7, 8] (fun v i wr => ∃ k : Nat, k + 1 ≤ s.sz ∧ i = .int .i64 ((k + 1 : Nat) : Int) ∧ Grow [] w1 wr v (List.replicate k x)) (fun _ i _ => s.sz - (intOf i).toNat)
        case atStart => exact ⟨0, by omega, rfl, HGZ.out⟩
        case round =>
          obtain ⟨k, hk, rfl, hgr⟩ := hrel
          have HG := Lib.hid hgr
          have m2 : wr.cell? ⟨q, 2, none⟩ = some (.int .i64 (s.sz : Int)) := (HF1.out.trans hgr.fr).cell (four HMQ.out).2.2.1 (by simp)
          have d2 := hgr.fr.cell HD2.out (by simp)
          have d3 := (HFB.out.trans (HF1.out.trans hgr.fr)).cell HXC.out (by simp)
          clear hgr
          by_cases hlt : k + 1 < s.sz
          · have hki : ((k : Int) + 1) < (s.sz : Int) := by omega
            have hol1 : 0 < od.length := by have := HO1.out; omega
            go_wp2_with (at_builtin; refine wpList_apB _ rfl _ _ 23 rfl w1.heap.size 5 Tryd.underlying23 info8 u7 (List.replicate k x) rfl (HG.out.alloc _).own (some ⟨wr.heap.size, 0, none⟩) 1 1 [x] rfl rfl (Bytes.one x rfl) (fun h => by cases h) (by rw [List.length_replicate]; omega) (HG.out.alloc _).size ?_; intro v' w1' happ; have HA := Lib.hid happ; clear happ)
            go_roundw
            case rel => exact ⟨k + 1, by omega, by go_num, by rw [List.replicate_succ']; exact (HG.out.alloc _).app HA.out⟩
            case measure => simp [intOf] <;> omega
          · have hki : ¬ ((k : Int) + 1) < (s.sz : Int) := by omega
            obtain ⟨g9, c9, rfl, hg9, hg9l, hb9, hf9⟩ := HG.out.fresh.bytes
            rw [List.length_replicate]
            obtain ⟨D, hD⟩ : ∃ D, D = List.replicate k x := ⟨_, rfl⟩
            have hDl : D.length ≤ 140737488351232 := by rw [hD, List.length_replicate]; omega
            rw [← hD] at hb9
            have hkD : k = D.length := by rw [hD, List.length_replicate]
            clear hD HG d3 hk hlt
            subst hkD
            generalize g9 = g2 at *
            generalize c9 = c2 at *
            have hg2 : wb.heap.size ≤ g2 := Nat.le_trans HF1.out.size hg9
            have hg2l := hg9l
            have hb2 := hb9
            have hf2 : Fr [] wb wr := HF1.out.trans hf9
            clear hg9 hg9l hb9 hf9
            have HB2 := Lib.hid hb2
            have HF2 := Lib.hid hf2
            have HG2 := Lib.hid hg2
            have HG2L := Lib.hid hg2l
            have b1 := hf2.cell (trio HBX.out).2.1 (by simp)
            clear hb2 hf2 hg2 hg2l d2 HCL
            go_wp2_with fail
            refine (clone_any (some ⟨g2, 0, none⟩) c2 D wr (by omega) (fun h => by cases h) HB2.out).mono ?_
            rintro e w3 ⟨v3, rfl, hv3⟩
            have ho3 := OwnB.of hv3.got.1
            obtain ⟨g3, c3, rfl, hg3, hg3l, hb3, hf3⟩ := hv3.bytes
            have HO3 := Lib.hid ho3
            have HB3 := Lib.hid hb3
            have HB23 := Lib.hid (HB2.out.keep hf3)
            have HG3 := Lib.hid hg3
            have HG3L := Lib.hid hg3l
            have HF3 := Lib.hid (HF2.out.trans hf3)
            have c1' := hf3.cell b1 (by simp)
            have HP3 := Lib.hid (HB.out.keep HF3.out)
            have hbb : w.heap.size ∉ bs := fun hm => by have := HLT.out _ (List.mem_append_left _ hm); omega
            clear hv3 ho3 hg3 hg3l hb3 hf3 b1
            go_wp2_with fail
            refine (Put_F B bs w3 p s id (some ⟨g3, 0, none⟩) c3 D HP3.out.f (by omega) (fun h => by cases h) HB3.out).mono ?_
            rintro e w4 ⟨rfl, bs4, h4, s4⟩
            obtain ⟨m4, ap4⟩ := HP3.out.prog h4 s4
            have hin2 : g2 ∉ bs := fun hm => by have := HLT.out _ (List.mem_append_left _ hm); have := HG2.out; have := HFB.out.size; omega
            have hin3 : g3 ∉ bs := fun hm => by have := HLT.out _ (List.mem_append_left _ hm); have := HG3.out; have := HF2.out.size; have := HFB.out.size; omega
            have hcs2 : g2 ∉ cs := fun hm => by have := HLT.out _ (List.mem_append_right _ hm); have := HG2.out; have := HFB.out.size; omega
            have hcs3 : g3 ∉ cs := fun hm => by have := HLT.out _ (List.mem_append_right _ hm); have := HG3.out; have := HF2.out.size; have := HFB.out.size; omega
            have HB24 := Lib.hid (HB23.out.fr s4.1 (.inr fun ad e => by cases e; exact hin2))
            have HB34 := Lib.hid (HB3.out.fr s4.1 (.inr fun ad e => by cases e; exact hin3))
            have HO4 := Lib.hid (HO3.out.keep s4.1 (fun i hi => by
              have h : g3 = i := by simpa [Value.ownBlock] using hi
              rw [← h]
              exact hin3))
            have HR4 := Lib.hid h4
            have HS4 := Lib.hid s4
            have HM4 := Lib.hid m4
            have HAP4 := Lib.hid ap4
            have e1 := s4.1.cell c1' hbb
            have HSM := Lib.hid (same_any (some ⟨g3, 0, none⟩) (some ⟨g2, 0, none⟩) c3 c2 D D w4 (fun h => by cases h) (fun h => by cases h) HB34.out HB24.out)
            rw [beq_self_eq_true] at HSM
            have HSP := Lib.hid (spoilF_any w4 wr.heap.size (some ⟨g3, 0, none⟩) D.length c3 HO4.out (by omega) (by have := HG3.out; have := HG3L.out; have := s4.1.size; omega))
            clear h4 s4 m4 ap4 c1'
            go_wp2_with fail
            refine HSM.out.mono ?_
            rintro e w' ⟨rfl, rfl⟩
            go_wp2_with fail
            refine HSP.out.mono ?_
            rintro e w5 ⟨⟨v5, rfl⟩, hf5⟩
            have hf5' : Fr [g3] w4 w5 := hf5
            have hbs4 : g3 ∉ bs4 := fun hm => by
              rcases HS4.out.2 _ hm with h | h
              · exact hin3 h
              · have := HG3L.out; omega
            have HR5 := Lib.hid (HR4.out.fr hf5' (fun i hi hm => by simp at hm; subst hm; exact hbs4 hi))
            have HM5 := Lib.hid (HM4.out.fr hf5' (fun i hi hm => by simp at hm; subst hm; exact hcs3 hi))
            have HB25 := Lib.hid (HB24.out.fr hf5' (.inr fun ad e hm => by cases e; simp at hm; have := HG3.out; have := HG2L.out; omega))
            have HF5 := Lib.hid hf5'
            have e2 := hf5'.cell e1 (by simp; have := HG3.out; have := HF2.out.size; have := (Array.getElem?_eq_some_iff.1 HBX.out).1; omega)
            clear hf5 hf5' hbs4 e1
            go_wp2_with fail
            refine (Put9 C cs w5 q s id (some ⟨g2, 0, none⟩) c2 D HM5.out (by omega) HB25.out (fun ad e => by cases e; exact hcs2)).mono ?_
            rintro e w6 ⟨rfl, cs6, h6, s6⟩
            have hee : (putE s id D.length == putE s id D.length) = true := beq_self_eq_true _
            have HP := Lib.hid (Pair.doc HR5.out HAP4.out h6 s6)
            have HFR : Hid (Fr (bs ++ cs) w w6) := Lib.hid (by
              have h1 : Fr (bs ++ cs) w w4 := ((HFB.out.trans HF3.out).mono (by simp)).trans (HS4.out.1.mono fun i hi _ => List.mem_append_left _ hi)
              have h2 : Fr (bs ++ cs) w w5 := h1.next HF5.out (fun i hi hlt => by simp at hi; have := HG3.out; have := HF2.out.size; have := HFB.out.size; omega)
              exact h2.next s6.1 fun i hi _ => List.mem_append_right _ hi)
            clear h6 s6
            go_wp2
            go_ret
            exact ⟨rfl, bs4, cs6, _, HP.out, HFR.out⟩
      · have h1i : ((od.length : Int) == 1) = false := by rw [beq_eq_false_iff_ne]; omega
        have h1n : (od.length == 1) = false := by rw [beq_eq_false_iff_ne]; exact h1
        obtain ⟨D, hD⟩ : ∃ D, D = od := ⟨_, rfl⟩
        obtain ⟨g2, hgg⟩ : ∃ g2, g2 = g1 := ⟨_, rfl⟩
        obtain ⟨c2, hcc⟩ : ∃ c2, c2 = c1 := ⟨_, rfl⟩
        have hDl : D.length ≤ 140737488351232 := by rw [hD]; exact hol
        have hb2 : Bytes w1 (some ⟨g2, 0, none⟩) D := by rw [hD, hgg]; exact HB1.out
        have hg2 : wb.heap.size ≤ g2 := by rw [hgg]; exact HG1.out
        have hg2l : g2 < w1.heap.size := by rw [hgg]; exact HG1L.out
        have hf2 : Fr [] wb w1 := HF1.out
        have e9 : Value.slice (some ⟨g1, 0, none⟩) od.length c1 = .slice (some ⟨g2, 0, none⟩) D.length c2 := by rw [hD, hgg, hcc]
        go_upto_region 12 with fail
        clear hD hgg hcc e9 h1 h1i h1n
        have HB2 := Lib.hid hb2
        have HF2 := Lib.hid hf2
        have HG2 := Lib.hid hg2
        have HG2L := Lib.hid hg2l
        have b1 := hf2.cell (trio HBX.out).2.1 (by simp)
        clear hb2 hf2 hg2 hg2l d1 d2 HCL
        go_wp2_with fail
        refine (clone_any (some ⟨g2, 0, none⟩) c2 D w1 (by omega) (fun h => by cases h) HB2.out).mono ?_
        rintro e w3 ⟨v3, rfl, hv3⟩
        have ho3 := OwnB.of hv3.got.1
        obtain ⟨g3, c3, rfl, hg3, hg3l, hb3, hf3⟩ := hv3.bytes
        have HO3 := Lib.hid ho3
        have HB3 := Lib.hid hb3
        have HB23 := Lib.hid (HB2.out.keep hf3)
        have HG3 := Lib.hid hg3
        have HG3L := Lib.hid hg3l
        have HF3 := Lib.hid (HF2.out.trans hf3)
        have c1' := hf3.cell b1 (by simp)
        have HP3 := Lib.hid (HB.out.keep HF3.out)
        have hbb : w.heap.size ∉ bs := fun hm => by have := HLT.out _ (List.mem_append_left _ hm); omega
        clear hv3 ho3 hg3 hg3l hb3 hf3 b1
        go_wp2_with fail
        refine (Put_F B bs w3 p s id (some ⟨g3, 0, none⟩) c3 D HP3.out.f (by omega) (fun h => by cases h) HB3.out).mono ?_
        rintro e w4 ⟨rfl, bs4, h4, s4⟩
        obtain ⟨m4, ap4⟩ := HP3.out.prog h4 s4
        have hin2 : g2 ∉ bs := fun hm => by have := HLT.out _ (List.mem_append_left _ hm); have := HG2.out; have := HFB.out.size; omega
        have hin3 : g3 ∉ bs := fun hm => by have := HLT.out _ (List.mem_append_left _ hm); have := HG3.out; have := HF2.out.size; have := HFB.out.size; omega
        have hcs2 : g2 ∉ cs := fun hm => by have := HLT.out _ (List.mem_append_right _ hm); have := HG2.out; have := HFB.out.size; omega
        have hcs3 : g3 ∉ cs := fun hm => by have := HLT.out _ (List.mem_append_right _ hm); have := HG3.out; have := HF2.out.size; have := HFB.out.size; omega
        have HB24 := Lib.hid (HB23.out.fr s4.1 (.inr fun ad e => by cases e; exact hin2))
        have HB34 := Lib.hid (HB3.out.fr s4.1 (.inr fun ad e => by cases e; exact hin3))
        have HO4 := Lib.hid (HO3.out.keep s4.1 (fun i hi => by
          have h : g3 = i := by simpa [Value.ownBlock] using hi
          rw [← h]
          exact hin3))
        have HR4 := Lib.hid h4
        have HS4 := Lib.hid s4
        have HM4 := Lib.hid m4
        have HAP4 := Lib.hid ap4
        have e1 := s4.1.cell c1' hbb
        have HSM := Lib.hid (same_any (some ⟨g3, 0, none⟩) (some ⟨g2, 0, none⟩) c3 c2 D D w4 (fun h => by cases h) (fun h => by cases h) HB34.out HB24.out)
        rw [beq_self_eq_true] at HSM
        have HSP := Lib.hid (spoilF_any w4 w1.heap.size (some ⟨g3, 0, none⟩) D.length c3 HO4.out (by omega) (by have := HG3.out; have := HG3L.out; have := s4.1.size; omega))
        clear h4 s4 m4 ap4 c1'
        go_wp2_with fail
        refine HSM.out.mono ?_
        rintro e w' ⟨rfl, rfl⟩
        go_wp2_with fail
        refine HSP.out.mono ?_
        rintro e w5 ⟨⟨v5, rfl⟩, hf5⟩
        have hf5' : Fr [g3] w4 w5 := hf5
        have hbs4 : g3 ∉ bs4 := fun hm => by
          rcases HS4.out.2 _ hm with h | h
          · exact hin3 h
          · have := HG3L.out; omega
        have HR5 := Lib.hid (HR4.out.fr hf5' (fun i hi hm => by simp at hm; subst hm; exact hbs4 hi))
        have HM5 := Lib.hid (HM4.out.fr hf5' (fun i hi hm => by simp at hm; subst hm; exact hcs3 hi))
        have HB25 := Lib.hid (HB24.out.fr hf5' (.inr fun ad e hm => by cases e; simp at hm; have := HG3.out; have := HG2L.out; omega))
        have HF5 := Lib.hid hf5'
        have e2 := hf5'.cell e1 (by simp; have := HG3.out; have := HF2.out.size; have := (Array.getElem?_eq_some_iff.1 HBX.out).1; omega)
        clear hf5 hf5' hbs4 e1
        go_wp2_with fail
        refine (Put9 C cs w5 q s id (some ⟨g2, 0, none⟩) c2 D HM5.out (by omega) HB25.out (fun ad e => by cases e; exact hcs2)).mono ?_
        rintro e w6 ⟨rfl, cs6, h6, s6⟩
        have hee : (putE s id D.length == putE s id D.length) = true := beq_self_eq_true _
        have HP := Lib.hid (Pair.doc HR5.out HAP4.out h6 s6)
        have HFR : Hid (Fr (bs ++ cs) w w6) := Lib.hid (by
          have h1 : Fr (bs ++ cs) w w4 := ((HFB.out.trans HF3.out).mono (by simp)).trans (HS4.out.1.mono fun i hi _ => List.mem_append_left _ hi)
          have h2 : Fr (bs ++ cs) w w5 := h1.next HF5.out (fun i hi hlt => by simp at hi; have := HG3.out; have := HF2.out.size; have := HFB.out.size; omega)
          exact h2.next s6.1 fun i hi _ => List.mem_append_right _ hi)
        clear h6 s6
        go_wp2
        go_ret
        exact ⟨rfl, bs4, cs6, _, HP.out, HFR.out⟩
  by_cases h34 : j = 3 ∨ j = 4
  · have HAL := Lib.hid (Alloc_F B bs wb p s HB.out.f)
    have HAL9 : Hid (∀ W, MF C cs W q s → Calls Tryd.prog 55 #[.pointer (some ⟨q, 0, none⟩)] W fun e w' => e = .returned (.tuple #[.int .i64 (alI s), .int .i64 (alE s)]) ∧ ∃ cs', MF C cs' w' q (alS s) ∧ Stp cs W cs' w') := Lib.hid fun W hW => Alloc9 C cs W q s hW
    have hee : (alE s == alE s) = true := beq_self_eq_true _
    have hii : (alI s == alI s) = true := beq_self_eq_true _
    rcases h34 with rfl | rfl
    all_goals
      go_wp2_with fail
      refine HAL.out.mono ?_
      rintro e w1 ⟨rfl, bs1, h1, s1⟩
      obtain ⟨m1, ap1⟩ := HB.out.prog h1 s1
      have HF1 := Lib.hid h1
      have HS1 := Lib.hid s1
      have HM1 := Lib.hid m1
      have HAP := Lib.hid ap1
      clear h1 s1 m1 ap1 b0 b1 b2
      go_wp2_with fail
      refine (HAL9.out w1 HM1.out).mono ?_
      rintro e w2 ⟨rfl, cs2, h2, s2⟩
      have HP := Lib.hid (Pair.doc HF1.out HAP.out h2 s2)
      have HFR := Lib.hid (HFB.out.mono (S := []) (T := bs ++ cs) (by simp) |>.trans (fr_both HS1.out.1 s2.1))
      clear h2 s2
      go_wp2
      go_ret
      exact ⟨rfl, bs1, cs2, _, HP.out, HFR.out⟩
  by_cases h5 : j = 5
  · subst h5
    have HFE : Hid (∀ W, Fr [] wb W → Calls Tryd.prog 14 #[.pointer (some ⟨p, 0, none⟩), .int .i64 id] W fun e w' => e = .returned (.int .i64 (freE s id)) ∧ ∃ bs', RF B bs' w' p (freS s id) ∧ Stp bs W bs' w') := Lib.hid fun W hW => Free_F B bs W p s id (HB.out.f.keep hW)
    have HFE9 : Hid (∀ W, MF C cs W q s → Calls Tryd.prog 33 #[.pointer (some ⟨q, 0, none⟩), .int .i64 id] W fun e w' => e = .returned (.int .i64 (freE s id)) ∧ ∃ cs', MF C cs' w' q (freS s id) ∧ Stp cs W cs' w') := Lib.hid fun W hW => Free9 C cs W q s id hW
    have hee : (freE s id == freE s id) = true := beq_self_eq_true _
    go_upto_region 24 with fail
    have HBD := Lib.hid (HB.out.keep ((Fr.refl [] wb).drew))
    have hbb : w.heap.size ∉ bs := fun hm => by have := HLT.out _ (List.mem_append_left _ hm); omega
    have hbc : w.heap.size ∉ cs := fun hm => by have := HLT.out _ (List.mem_append_right _ hm); omega
    clear b0 b2
    go_region_held3 (fun w' => w'.cell? ⟨w.heap.size, 1, none⟩ = some (.int .i64 id))
      (first
        | with_reducible assumption
        | exact b1)
      (first
        | (go_at_call 14; (with_reducible refine (HFE.out _ ((Fr.refl [] wb).drew)).mono ?_); rintro e wA ⟨rfl, bsA, hA, sA⟩; have hA1 : wA.cell? ⟨w.heap.size, 1, none⟩ = some (.int .i64 id) := sA.1.cell b1 hbb; have hmA := HBD.out.prog hA sA)
        | (go_at_call 33; (with_reducible refine (HFE9.out _ hmA.1).mono ?_); rintro e wB ⟨rfl, csB, hB, sB⟩; have hB1 : wB.cell? ⟨w.heap.size, 1, none⟩ = some (.int .i64 id) := sB.1.cell hA1 hbc))
    all_goals
      have HP := Lib.hid (Pair.doc hA hmA.2 hB sB)
      have HFR := Lib.hid ((HFB.out.mono (S := []) (T := bs ++ cs) (by simp)).trans ((((Fr.refl (bs ++ cs) wb).drew)).trans (fr_both sA.1 sB.1)))
      clear hA hmA hB sA sB
      go_wp2
      go_ret
      exact ⟨rfl, bsA, csB, _, HP.out, HFR.out⟩
  by_cases h6 : j = 6
  · subst h6
    have HGE := Lib.hid (Get_F B bs wb p s id HB.out.f)
    have HGE9 : Hid (∀ W, Fr [] wb W → Calls Tryd.prog 56 #[.pointer (some ⟨q, 0, none⟩), .int .i64 id] W fun e w' => ∃ v, e = .returned (.tuple #[v, .int .i64 (if usedR s.R id = true then 0 else 3)]) ∧ Fresh W.heap.size W w' v (getRd s.R id)) := Lib.hid fun W hW => Get9 C cs W q s id (HB.out.m.keep hW)
    have HLD : Hid ((getRd s.R id).length ≤ 255) := Lib.hid (by
      unfold getRd
      by_cases hu : usedR s.R id = true
      · rw [if_pos hu]
        obtain ⟨_, _, d, hd⟩ := usedR_lt hu
        rw [List.getD_eq_getElem?_getD, hd]
        have := HB.out.f.ok.dat.get hd
        have := HB.out.f.ok.hi
        simp only [Option.getD_some]
        omega
      · rw [if_neg hu]; simp)
    obtain ⟨E, hE⟩ : ∃ E : Int, E = if usedR s.R id = true then 0 else 3 := ⟨_, rfl⟩
    obtain ⟨D, hD⟩ : ∃ D, D = getRd s.R id := ⟨_, rfl⟩
    rw [← hE, ← hD] at HGE HGE9
    rw [← hD] at HLD
    clear hE hD
    have hee : (E == E) = true := beq_self_eq_true _
    go_wp2_with fail
    refine HGE.out.mono ?_
    rintro e w1 ⟨v1, rfl, hv1⟩
    have ho1 := OwnB.of hv1.1
    obtain ⟨a1, c1, rfl, hb1, hlc, hno1, had⟩ := hv1.bytes
    have hf1 := hv1.2
    have HO1 := Lib.hid ho1
    have HB1 := Lib.hid hb1
    have HF1 := Lib.hid hf1
    have HNO1 := Lib.hid hno1
    have HAD := Lib.hid had
    have b1' := hf1.cell b1 (by simp)
    clear hv1 ho1 hb1 hlc hno1 had hf1 b0 b1 b2
    go_wp2_with fail
    refine (HGE9.out w1 HF1.out).mono ?_
    rintro e w2 ⟨v2, rfl, hv2⟩
    obtain ⟨g2, c2, rfl, -, -, hb2, hf2⟩ := hv2.bytes
    have HF2 := Lib.hid (HF1.out.trans hf2)
    have HSM := Lib.hid (same_any a1 (some ⟨g2, 0, none⟩) c1 c2 D D w2 HNO1.out (fun h => by cases h) (HB1.out.keep hf2) hb2)
    rw [beq_self_eq_true] at HSM
    have HSP := Lib.hid (spoilF_any w2 wb.heap.size a1 D.length c1 (HO1.out.keep hf2 (by simp)) (by have := HLD.out; omega) HF2.out.size)
    clear hv2 hb2 hf2 b1'
    go_wp2_with fail
    refine HSM.out.mono ?_
    rintro e w' ⟨rfl, rfl⟩
    go_wp2_with fail
    refine HSP.out.mono ?_
    rintro e w3 ⟨⟨v3, rfl⟩, hf3⟩
    have HF3 : Hid (Fr [] wb w3) := Lib.hid (fr_new HF2.out hf3 fun i hi => by
      cases a1 with
      | none => simp [Value.ownBlock] at hi
      | some ad =>
        obtain ⟨h1, h2, h3⟩ := HAD.out ad rfl
        obtain ⟨ab, ao, asp⟩ := ad
        simp only at h1 h2 h3
        subst h2 h3
        have : ab = i := by simpa [Value.ownBlock, eq_comm] using hi
        omega)
    clear hf3
    go_wp2
    go_ret
    exact ⟨rfl, .same HH.out (HFB.out.trans HF3.out)⟩
  · obtain rfl : j = 7 := by omega
    obtain ⟨D, hD⟩ : ∃ D, D = fileB s.kd s.vr s.sz s.R := ⟨_, rfl⟩
    have HBY : Hid (∀ W, Fr [] wb W → Calls Tryd.prog 20 #[.pointer (some ⟨p, 0, none⟩)] W fun e w' => ∃ v, e = .returned v ∧ Fresh W.heap.size W w' v D) := Lib.hid fun W hW => by rw [hD]; exact Bytes_F B bs W p s (HB.out.f.keep hW) (nib_keep HN.out (HFB.out.trans hW))
    have HBY9 : Hid (∀ W, Fr [] wb W → Calls Tryd.prog 26 #[.pointer (some ⟨q, 0, none⟩)] W fun e w' => ∃ v, e = .returned v ∧ Fresh W.heap.size W w' v D) := Lib.hid fun W hW => by rw [hD]; exact Bytes9 C cs W q s (HB.out.m.keep hW)
    have HDL : Hid (D.length ≤ 17000000) := Lib.hid (by
      rw [hD, fileB_length HB.out.f.ok.dat]
      have : s.R.length * s.sz ≤ 65536 * 255 := Nat.mul_le_mul HB.out.f.ok.len HB.out.f.ok.hi
      omega)
    clear hD
    go_wp2_with fail
    clear b0 b1 b2
    refine (HBY.out wb (Fr.refl _ _)).mono ?_
    rintro e w1 ⟨v1, rfl, hv1⟩
    have ho1 := OwnB.of hv1.got.1
    obtain ⟨g1, c1, rfl, hg1, -, -, hf1⟩ := hv1.bytes
    have HO1 := Lib.hid ho1
    have HF1 := Lib.hid hf1
    have HG1 := Lib.hid hg1
    clear hv1 ho1 hg1 hf1
    go_wp2_with fail
    refine (HBY.out w1 HF1.out).mono ?_
    rintro e w2 ⟨v2, rfl, hv2⟩
    obtain ⟨g2, c2, rfl, hg2, -, hb2, hf2⟩ := hv2.bytes
    have HF2 := Lib.hid (HF1.out.trans hf2)
    have HB2 := Lib.hid hb2
    have HG2 : Hid (g1 < g2) := Lib.hid (by have := (HO1.out.lt (i := g1) rfl).2; omega)
    have HSP := Lib.hid (spoilF_any w2 wb.heap.size (some ⟨g1, 0, none⟩) D.length c1 (HO1.out.keep hf2 (by simp)) (by have := HDL.out; omega) HF2.out.size)
    clear hv2 hb2 hf2 hg2
    go_wp2_with fail
    refine HSP.out.mono ?_
    rintro e w3 ⟨⟨v3, rfl⟩, hf3⟩
    have HF3 : Hid (Fr [] wb w3) := Lib.hid (fr_new HF2.out hf3 fun i hi => by
      have : g1 = i := by simpa [Value.ownBlock, eq_comm] using hi
      have := HG1.out
      omega)
    have HB3 : Hid (Bytes w3 (some ⟨g2, 0, none⟩) D) := Lib.hid (HB2.out.fr hf3 (.inr fun ad e hm => by
      cases e
      have : g1 = g2 := by simpa [Value.ownBlock, eq_comm] using hm
      have := HG2.out
      omega))
    clear hf3
    go_wp2_with fail
    refine (HBY9.out w3 HF3.out).mono ?_
    rintro e w4 ⟨v4, rfl, hv4⟩
    obtain ⟨g4, c4, rfl, -, -, hb4, hf4⟩ := hv4.bytes
    have HF4 := Lib.hid (HF3.out.trans hf4)
    have HSM := Lib.hid (same_any (some ⟨g2, 0, none⟩) (some ⟨g4, 0, none⟩) c2 c4 D D w4 (fun h => by cases h) (fun h => by cases h) (HB3.out.keep hf4) hb4)
    rw [beq_self_eq_true] at HSM
    clear hv4 hb4 hf4
    go_wp2_with fail
    refine HSM.out.mono ?_
    rintro e w' ⟨rfl, rfl⟩
    go_wp2
    go_ret
    exact ⟨rfl, .same HH.out (HFB.out.trans HF4.out)⟩
end Go.Proofs.YtibhbfmljibeaaaDoor
