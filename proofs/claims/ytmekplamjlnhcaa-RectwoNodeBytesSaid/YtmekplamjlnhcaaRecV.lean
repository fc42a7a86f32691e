/- The walks of the copy and the comparison of nodes of version 2. -/
import Derived.Test.YtmekplamjlnhcaaRecT
import Derived.Test.YtmekplamjlnhcaaRecU
namespace Go.Proofs.Ytmekplamjlnhcaa
open Go.RowKit
attribute [local go_sem ↓] Go.wp_at_zero Go.wp_at_succ
theorem Ints.news {w : World} {a : Option Addr} {l : List Int} (h : Ints w a l) : ∀ ad, a = some ad → ∀ j u, (l.map (Value.int .i64))[j]? = some u → w.cell? (ad.add j) = some u := by
  rintro ad rfl j u hu
  have hj : j < l.length := by
    have := (List.getElem?_eq_some_iff.1 hu).1
    simpa using this
  obtain ⟨b, off, e, hc⟩ := h.at (by omega)
  cases e
  rw [Addr.add_lit, hc j hj]
  have : (l.map (Value.int .i64))[j]? = some (.int .i64 (l.getD j 0)) := by simp [List.getD, hj]
  rw [this] at hu
  exact hu
theorem Ints.none {w : World} {a : Option Addr} {l : List Int} {c : Nat} (h : Ints w a l) (hc : a = none → c = 0) : a = none → l.length = 0 ∧ c = 0 := by
  rintro rfl
  rcases h with rfl | ⟨_, _, h, _⟩
  · exact ⟨rfl, hc rfl⟩
  · cases h
theorem ints_one (l : List Int) : ∀ u ∈ l.map (Value.int .i64), u.oneCell' = true := by
  intro u hu
  obtain ⟨_, _, rfl⟩ := List.mem_map.1 hu
  rfl
theorem bytes_low {w : World} {a : Option Addr} {l : List UInt8} {S : List Nat} (h : Bytes w a l) (hS : ∀ k, k < w.heap.size → k ∉ S) : l = [] ∨ ∀ ad, a = some ad → ad.block ∉ S := by
  rcases h with h | ⟨b, off, rfl, hc⟩
  · exact .inl h
  · by_cases h0 : l = []
    · exact .inl h0
    · refine .inr fun ad e => ?_
      cases e
      exact hS b (World.block_lt_of_cell? w _ (hc 0 (List.length_pos_iff.2 h0)))
set_option maxRecDepth 100000 in
set_option maxHeartbeats 1600000 in
theorem copyNode_any (dense : Bool) (first over : Int) (la : Option Addr) (lc : Nat) (labs : List Int) (sa : Option Addr) (sc : Nat) (sl : List UInt8) (w : World) (hll : labs.length ≤ 17592186044000) (hnl : la = none → lc = 0) (hi : Ints w la labs) (hl : sl.length ≤ 140737488351300) (hno : sa = none → sc = 0) (hb : Bytes w sa sl) :
    Calls Try.prog 24 #[.agg #[.bool dense, .int .i64 first, .int .i64 over, .slice la labs.length lc, .slice sa sl.length sc]] w fun e w' => ∃ ga ca gb cb, e = .returned (.agg #[.bool dense, .int .i64 first, .int .i64 over, .slice ga labs.length ca, .slice gb sl.length cb]) ∧ (gb = none → cb = 0) ∧ Ints w' ga labs ∧ Bytes w' gb sl ∧ Fr [] w w' := by
  have HI := Lib.hid hi
  have HB := Lib.hid hb
  have HNO := Lib.hid hno
  have HNL := Lib.hid hnl
  clear hi hb hno hnl
  go_enter Try.func24, Try.ntmps24
  obtain ⟨wa, hwa⟩ : ∃ wa, wa = (w.alloc (.cells #[.bool dense, .int .i64 first, .int .i64 over, .slice la labs.length lc, .slice sa sl.length sc] 54)).alloc (.cells #[.bool false, .int .i64 0, .int .i64 0, .slice none 0 0, .slice none 0 0] 54) := ⟨_, rfl⟩
  have hfa : Fr [] w wa := by rw [hwa]; exact ((Fr.refl _ _).alloc _).alloc _
  have h1 : wa.heap[w.heap.size]? = some (.cells #[.bool dense, .int .i64 first, .int .i64 over, .slice la labs.length lc, .slice sa sl.length sc] 54) := by rw [hwa]; exact heap_alloc2_old w _ _
  have h2 : wa.heap[w.heap.size + 1]? = some (.cells #[.bool false, .int .i64 0, .int .i64 0, .slice none 0 0, .slice none 0 0] 54) := by rw [hwa]; exact heap_alloc2_new w _ _
  have hsa : wa.heap.size = w.heap.size + 1 + 1 := by rw [hwa]; simp
  have HWA := Lib.hid hwa
  have H1 := Lib.hid h1
  have H2 := Lib.hid h2
  have HSA := Lib.hid hsa
  have HFA := Lib.hid hfa
  clear hwa h1 h2 hsa hfa
  have hown : (((w.alloc (.cells #[.bool dense, .int .i64 first, .int .i64 over, .slice la labs.length lc, .slice sa sl.length sc] 54)).alloc (.cells #[.bool false, .int .i64 0, .int .i64 0, .slice none 0 0, .slice none 0 0] 54)).alloc (.cells #[] 3)).ownsRow (w.heap.size + 1 + 1) 3 1 (.slice (some ⟨w.heap.size + 1 + 1, 0, none⟩) 0 0) 0 [] := by
    have := own_empty ((w.alloc (.cells #[.bool dense, .int .i64 first, .int .i64 over, .slice la labs.length lc, .slice sa sl.length sc] 54)).alloc (.cells #[.bool false, .int .i64 0, .int .i64 0, .slice none 0 0, .slice none 0 0] 54)) 3
    simpa using this
  have hfb : Fr [] w (((w.alloc (.cells #[.bool dense, .int .i64 first, .int .i64 over, .slice la labs.length lc, .slice sa sl.length sc] 54)).alloc (.cells #[.bool false, .int .i64 0, .int .i64 0, .slice none 0 0, .slice none 0 0] 54)).alloc (.cells #[] 3)) := (((Fr.refl _ _).alloc _).alloc _).alloc _
  have hib : Ints (((w.alloc (.cells #[.bool dense, .int .i64 first, .int .i64 over, .slice la labs.length lc, .slice sa sl.length sc] 54)).alloc (.cells #[.bool false, .int .i64 0, .int .i64 0, .slice none 0 0, .slice none 0 0] 54)).alloc (.cells #[] 3)) la labs := HI.out.keep hfb
  have hbb : Bytes (((w.alloc (.cells #[.bool dense, .int .i64 first, .int .i64 over, .slice la labs.length lc, .slice sa sl.length sc] 54)).alloc (.cells #[.bool false, .int .i64 0, .int .i64 0, .slice none 0 0, .slice none 0 0] 54)).alloc (.cells #[] 3)) sa sl := HB.out.keep hfb
  have hb1 : (((w.alloc (.cells #[.bool dense, .int .i64 first, .int .i64 over, .slice la labs.length lc, .slice sa sl.length sc] 54)).alloc (.cells #[.bool false, .int .i64 0, .int .i64 0, .slice none 0 0, .slice none 0 0] 54)).alloc (.cells #[] 3)).heap[w.heap.size]? = some (.cells #[.bool dense, .int .i64 first, .int .i64 over, .slice la labs.length lc, .slice sa sl.length sc] 54) := ((Fr.refl [] _).alloc (.cells #[] 3)).obj (by have := H1.out; rwa [HWA.out] at this) (by simp)
  have hb2 : (((w.alloc (.cells #[.bool dense, .int .i64 first, .int .i64 over, .slice la labs.length lc, .slice sa sl.length sc] 54)).alloc (.cells #[.bool false, .int .i64 0, .int .i64 0, .slice none 0 0, .slice none 0 0] 54)).alloc (.cells #[] 3)).heap[w.heap.size + 1]? = some (.cells #[.bool false, .int .i64 0, .int .i64 0, .slice none 0 0, .slice none 0 0] 54) := ((Fr.refl [] _).alloc (.cells #[] 3)).obj (by have := H2.out; rwa [HWA.out] at this) (by simp)
  have HOWN := Lib.hid hown
  have HNEWS := Lib.hid hib.news
  have HNONE := Lib.hid (hib.none HNL.out)
  have HBB := Lib.hid hbb
  have HB1 := Lib.hid hb1
  have HB2 := Lib.hid hb2
  have HFB := Lib.hid hfb
  have HLL := Lib.hid hll
  clear hown hib hbb hb1 hb2 hfb hll H1 H2 HWA HSA HFA wa
  go_wp2_with (at_builtin; refine wpList_appS _ rfl _ _ 52 rfl (w.heap.size + 1 + 1) 3 (.int .i64 0) 1 8 Try.underlying52 infoI rfl (by decide) (.slice (some ⟨w.heap.size + 1 + 1, 0, none⟩) 0 0) 0 [] rfl HOWN.out la _ lc (labs.map (Value.int .i64)) rfl (by simp) HNEWS.out HNONE.out (ints_one labs) (by have := HLL.out; unfold maxLen; omega) (by have := HLL.out; omega) (by simp) ?_; intro v' w1 happ; have hown2 : w1.ownsRow (w.heap.size + 1 + 1) 3 1 v' labs.length (labs.map (Value.int .i64)) := (by simpa using happ.own); have hf1 := happ.fr; have ho1 := hf1.obj HB1.out (by simp [Value.ownBlock]; omega); have ho2 := hf1.obj HB2.out (by simp [Value.ownBlock]); have hs1 := HBB.out.fr hf1 (bytes_low HB.out (by intro k hk; simp [Value.ownBlock]; omega)); have hfw := (HFB.out.next hf1 (by intro i hi hlt; simp [Value.ownBlock] at hi; omega)); have HO1 := Lib.hid ho1; have HO2 := Lib.hid ho2; have HS1 := Lib.hid hs1; have HFW := Lib.hid hfw; obtain ⟨a1, c1, rfl, hin1, _, _, hlo1⟩ := ints_of_own hown2; have HIN1 := Lib.hid hin1; have HLO1 := Lib.hid hlo1; have x3 := cell_of_row w1 _ 3 _ _ _ ho1; have xf3 := frozen_of_row w1 _ 3 _ _ ho1; have x4 := cell_of_row w1 _ 4 _ _ _ ho1; clear happ hown2 hf1 ho1 ho2 hs1 hfw hin1 hlo1)
  obtain ⟨w2, hw2⟩ : ∃ w2, w2 = w1.setCell ⟨w.heap.size, 3, none⟩ (.slice a1 labs.length c1) := ⟨_, rfl⟩
  rw [← hw2]
  have hfs : Fr [w.heap.size] w1 w2 := by rw [hw2]; exact (Fr.refl _ _).setCell (by simp) _
  have hf2 : Fr [] w w2 := HFW.out.next hfs (by intro i hi hlt; simp at hi; omega)
  have ho1 : w2.heap[w.heap.size]? = some (.cells #[.bool dense, .int .i64 first, .int .i64 over, .slice a1 labs.length c1, .slice sa sl.length sc] 54) := by rw [hw2]; exact heap_setCell_same w1 _ 3 _ _ _ HO1.out
  have ho2 : w2.heap[w.heap.size + 1]? = some (.cells #[.bool false, .int .i64 0, .int .i64 0, .slice none 0 0, .slice none 0 0] 54) := hfs.obj HO2.out (by simp)
  have hs2 : Bytes w2 sa sl := HB.out.keep hf2
  have hi2 : Ints w2 a1 labs := HIN1.out.fr hfs (.inr fun ad e => by have := HLO1.out ad e; simp; omega)
  clear hw2 hfs x3 xf3 x4
  refine (clone_any sa sc sl w2 hl HNO.out hs2).mono ?_
  rintro e w3 ⟨v, rfl, hv⟩
  have HF3 := Lib.hid (hf2.trans hv.fr)
  have HI3 := Lib.hid (hi2.keep hv.fr)
  have o1 := hv.fr.obj ho1 (by simp)
  have o2 := hv.fr.obj ho2 (by simp)
  have O1 := Lib.hid o1
  have O2 := Lib.hid o2
  have hsz := hv.fr.size
  have hlt2 := (Array.getElem?_eq_some_iff.1 ho2).1
  obtain ⟨g, cap, rfl, hg, _, hbv, _⟩ := hv.bytes
  have HV := Lib.hid hbv
  have x0 := cell_of_row w3 _ 0 _ _ _ o1
  have x1 := cell_of_row w3 _ 1 _ _ _ o1
  have x2 := cell_of_row w3 _ 2 _ _ _ o1
  have x3 := cell_of_row w3 _ 3 _ _ _ o1
  have x4 := cell_of_row w3 _ 4 _ _ _ o1
  have xf0 := frozen_of_row w3 _ 0 _ _ o1
  have xf1 := frozen_of_row w3 _ 1 _ _ o1
  have xf2 := frozen_of_row w3 _ 2 _ _ o1
  have xf3 := frozen_of_row w3 _ 3 _ _ o1
  have xf4 := frozen_of_row w3 _ 4 _ _ o1
  have z0 := cell_of_row w3 _ 0 _ _ _ o2
  have z1 := cell_of_row w3 _ 1 _ _ _ o2
  have z2 := cell_of_row w3 _ 2 _ _ _ o2
  have z3 := cell_of_row w3 _ 3 _ _ _ o2
  have z4 := cell_of_row w3 _ 4 _ _ _ o2
  have zf0 := frozen_of_row w3 _ 0 _ _ o2
  have zf1 := frozen_of_row w3 _ 1 _ _ o2
  have zf2 := frozen_of_row w3 _ 2 _ _ o2
  have zf3 := frozen_of_row w3 _ 3 _ _ o2
  have zf4 := frozen_of_row w3 _ 4 _ _ o2
  clear ho1 ho2 hs2 hi2 hv hbv o1 o2 hf2
  go_wp2
  obtain ⟨w4, hw4⟩ : ∃ w4, w4 = w3.setCell ⟨w.heap.size, 4, none⟩ (.slice (some ⟨g, 0, none⟩) sl.length cap) := ⟨_, rfl⟩
  rw [← hw4]
  have hfs : Fr [w.heap.size] w3 w4 := by rw [hw4]; exact (Fr.refl _ _).setCell (by simp) _
  have hf4 : Fr [] w w4 := HF3.out.next hfs (by intro i hi hlt; simp at hi; omega)
  have o3 : w4.heap[w.heap.size + 1]? = some (.cells #[.bool false, .int .i64 0, .int .i64 0, .slice none 0 0, .slice none 0 0] 54) := hfs.obj O2.out (by simp)
  have hb4 : Bytes w4 (some ⟨g, 0, none⟩) sl := HV.out.fr hfs (.inr fun ad e => by cases e; simp; omega)
  have hi4 : Ints w4 a1 labs := HI3.out.fr hfs (.inr fun ad e => by have := HLO1.out ad e; simp; omega)
  have hfe : Fr [w.heap.size + 1] w4 (w4.setCells (w.heap.size + 1) 0 [.bool dense, .int .i64 first, .int .i64 over, .slice a1 labs.length c1, .slice (some ⟨g, 0, none⟩) sl.length cap]) := Fr.setCells (by simp) [.bool dense, .int .i64 first, .int .i64 over, .slice a1 labs.length c1, .slice (some ⟨g, 0, none⟩) sl.length cap] 0 w4 (Fr.refl _ _)
  refine bodyPost_ret (v := .agg #[.bool dense, .int .i64 first, .int .i64 over, .slice a1 labs.length c1, .slice (some ⟨g, 0, none⟩) sl.length cap]) ?_ rfl ⟨a1, c1, some ⟨g, 0, none⟩, cap, rfl, (fun h => by cases h), hi4.fr hfe (.inr fun ad e => by have := HLO1.out ad e; simp; omega), hb4.fr hfe (.inr fun ad e => by cases e; simp; omega), hf4.next hfe (by intro i hi hlt; simp at hi; omega)⟩
  exact results_cell_row Try.results24 _ _ (w.heap.size + 1) 54 _ (0, 0) _ rfl (obj_setCells o3 [.bool dense, .int .i64 first, .int .i64 over, .slice a1 labs.length c1, .slice (some ⟨g, 0, none⟩) sl.length cap] rfl) Try.underlying54 rfl infoN
end Go.Proofs.Ytmekplamjlnhcaa
