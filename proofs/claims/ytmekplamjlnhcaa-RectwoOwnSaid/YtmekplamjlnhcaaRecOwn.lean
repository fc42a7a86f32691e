/- The walk of the law RectwoOwn. -/
import Derived.Test.YtmekplamjlnhcaaRecZ
import Derived.Deep.CutRange
namespace Go.Proofs.Ytmekplamjlnhcaa
open Go.RowKit
attribute [local go_sem ↓] Go.wp_at_zero Go.wp_at_succ
/-- the numbers from a on, below b -/
def rng (a b : Nat) : List Nat := List.range' a (b - a)
theorem mem_rng {a b i : Nat} : i ∈ rng a b ↔ a ≤ i ∧ i < b := by unfold rng; rw [List.mem_range'_1]; omega
/-- a cell of an own row of numbers is written -/
theorem own_setI {w : World} {B e : Nat} {g cap : Nat} {l : List Int} (h : w.ownsRow B e 1 (.slice (some ⟨g, 0, none⟩) l.length cap) l.length (l.map (Value.int .i64))) (k : Nat) (x : Int) : (w.setCell ⟨g, k, none⟩ (.int .i64 x)).ownsRow B e 1 (.slice (some ⟨g, 0, none⟩) l.length cap) l.length ((l.set k x).map (Value.int .i64)) := by
  rcases h.2 with ⟨e1, _⟩ | ⟨g', cap', cur, e1, hb, hh, hn, hm, hs, ht⟩
  · cases e1
  simp only [Value.slice.injEq, Option.some.injEq, Addr.mk.injEq] at e1
  obtain ⟨⟨rfl, _⟩, _, rfl⟩ := e1
  refine ⟨by simp, .inr ⟨g, cap, _, rfl, hb, heap_setCell_same w g k cur _ _ hh, hn, hm, by simp [hs], ?_⟩⟩
  rw [Array.toList_setIfInBounds, List.take_set, ht, List.map_set]
theorem bytes_own {w : World} {B e : Nat} {a : Option Addr} {n cap : Nat} {l : List UInt8} (h : w.ownsRow B e 1 (.slice a n cap) l.length (l.map B8)) : Bytes w a l := by
  obtain ⟨a', cap', e, hb, _⟩ := Bytes.of_own h
  simp only [Value.slice.injEq] at e
  obtain ⟨rfl, _, rfl⟩ := e
  exact hb
theorem ints_own {w : World} {B e : Nat} {a : Option Addr} {n cap : Nat} {l : List Int} (h : w.ownsRow B e 1 (.slice a n cap) l.length (l.map (Value.int .i64))) : Ints w a l := by
  obtain ⟨a', cap', e, hb, _⟩ := ints_of_own h
  simp only [Value.slice.injEq] at e
  obtain ⟨rfl, _, rfl⟩ := e
  exact hb
theorem own_addr {w : World} {B e n cap : Nat} {a : Option Addr} {xs : List Value} (h : w.ownsRow B e 1 (.slice a n cap) n xs) (hn : 0 < n) : ∃ g, a = some ⟨g, 0, none⟩ ∧ B ≤ g := by
  rcases h.2 with ⟨e1, h0⟩ | ⟨g, cap', cur, e1, hb, _⟩
  · omega
  · simp only [Value.slice.injEq] at e1
    exact ⟨g, e1.1, hb⟩
theorem own_none {w : World} {B e n cap m : Nat} {a : Option Addr} {xs : List Value} (h : w.ownsRow B e 1 (.slice a n cap) m xs) : a = none → cap = 0 := by
  intro ha
  rcases h.2 with ⟨e1, _⟩ | ⟨g, cap', cur, e1, _⟩
  · simp only [Value.slice.injEq] at e1; exact e1.2.2
  · simp only [Value.slice.injEq] at e1; rw [ha] at e1; cases e1.1
theorem ints_low {w : World} {a : Option Addr} {l : List Int} {S : List Nat} (h : Ints w a l) (hS : ∀ k, k < w.heap.size → k ∉ S) : l = [] ∨ ∀ ad, a = some ad → ad.block ∉ S := by
  by_cases h0 : l = []
  · exact .inl h0
  · have hp : 0 < l.length := List.length_pos_iff.2 h0
    obtain ⟨b, off, rfl, hc⟩ := h.at hp
    refine .inr fun ad e => ?_
    cases e
    exact hS b (World.block_lt_of_cell? w _ (hc 0 hp))
/-- a row of bytes of the call's own, whatever it reads as -/
def Row (w : World) (B g n cap : Nat) : Prop := ∃ l : List UInt8, l.length = n ∧ w.ownsRow B 5 1 (.slice (some ⟨g, 0, none⟩) n cap) n (l.map B8)
theorem Row.of {w : World} {B g cap : Nat} {l : List UInt8} (h : w.ownsRow B 5 1 (.slice (some ⟨g, 0, none⟩) l.length cap) l.length (l.map B8)) : Row w B g l.length cap := ⟨l, rfl, h⟩
theorem Row.cell {w : World} {B g n cap k : Nat} (h : Row w B g n cap) (hk : k < n) : ∃ y, w.cell? ⟨g, k, none⟩ = some y := by
  obtain ⟨l, rfl, h⟩ := h
  obtain ⟨b0, o0, e0, h0⟩ := (own_bytes h).at (by omega)
  cases e0
  have := h0 k hk
  rw [Nat.zero_add] at this
  exact ⟨_, this⟩
theorem Row.free {w : World} {B g n cap : Nat} (h : Row w B g n cap) (k : Nat) : w.frozen? ⟨g, k, none⟩ = false := by
  obtain ⟨l, rfl, h⟩ := h
  exact own_free h rfl k
theorem Row.set {w : World} {B g n cap : Nat} (h : Row w B g n cap) (k : Nat) (z : Int) (hz : 0 ≤ z ∧ z < 256 := by omega) : Row (w.setCell ⟨g, k, none⟩ (.int .u8 z)) B g n cap := by
  obtain ⟨l, rfl, h⟩ := h
  have e : B8 (UInt8.ofNat z.toNat) = .int .u8 z := by
    unfold B8 I8
    rw [UInt8.toNat_ofNat', Nat.mod_eq_of_lt (by omega)]
    congr 1; omega
  have := own_set h k (UInt8.ofNat z.toNat)
  rw [e] at this
  exact ⟨l.set k _, by simp, this⟩
theorem Row.keep {w w' : World} {B g n cap : Nat} {S : List Nat} (h : Row w B g n cap) (hf : Fr S w w') (hS : g ∉ S) : Row w' B g n cap := by
  obtain ⟨l, hl, h⟩ := h
  exact ⟨l, hl, own_fr h hf (by intro g' hg'; cases hg'; exact hS)⟩
/-- what a record read lies in: a list of numbers, a list of bytes, a box; the blocks from a to b may have turned -/
structure Two (a b : Nat) (w0 w : World) (vL : Value) (nL : Nat) (vS : Value) (nS : Nat) (o : Obj) : Prop where
  fr : Fr (rng a (b + 1)) w0 w
  box : w.heap[b]? = some o
  L : ∃ l : List Int, l.length = nL ∧ w.ownsRow a 3 1 vL nL (l.map (Value.int .i64))
  S : ∃ l : List UInt8, l.length = nS ∧ w.ownsRow a 5 1 vS nS (l.map B8)
  dis : ∀ g, vL.ownBlock = some g → vS.ownBlock ≠ some g
  bL : ∀ g, vL.ownBlock = some g → g < b
  bS : ∀ g, vS.ownBlock = some g → g < b
theorem Two.setS {a b : Nat} {w0 w : World} {vL : Value} {nL nS g cap : Nat} {o : Obj} (h : Two a b w0 w vL nL (.slice (some ⟨g, 0, none⟩) nS cap) nS o) (k : Nat) (x : UInt8) : Two a b w0 (w.setCell ⟨g, k, none⟩ (B8 x)) vL nL (.slice (some ⟨g, 0, none⟩) nS cap) nS o := by
  obtain ⟨l, rfl, hl⟩ := h.S
  obtain ⟨m, hm, hl2⟩ := h.L
  have hg : g < b := h.bS g rfl
  have ha : a ≤ g := (own_lt hl rfl).1
  refine ⟨h.fr.setCell (fun _ => mem_rng.2 ⟨ha, by simp; omega⟩) _, ?_, ⟨m, hm, ?_⟩, ⟨l.set k x, by simp, own_set hl k x⟩, h.dis, h.bL, h.bS⟩
  · rw [heap_setCell_other _ _ _ _ (by simp; omega)]; exact h.box
  · exact own_fr hl2 ((Fr.refl [g] w).setCell (by simp) _) (by intro j hj hm2; simp at hm2; subst hm2; exact h.dis _ hj rfl)
theorem Two.setL {a b : Nat} {w0 w : World} {vS : Value} {nL nS g cap : Nat} {o : Obj} (h : Two a b w0 w (.slice (some ⟨g, 0, none⟩) nL cap) nL vS nS o) (k : Nat) (x : Int) : Two a b w0 (w.setCell ⟨g, k, none⟩ (.int .i64 x)) (.slice (some ⟨g, 0, none⟩) nL cap) nL vS nS o := by
  obtain ⟨l, hl0, hl⟩ := h.S
  obtain ⟨m, rfl, hl2⟩ := h.L
  have hg : g < b := h.bL g rfl
  have ha : a ≤ g := (own_lt hl2 rfl).1
  refine ⟨h.fr.setCell (fun _ => mem_rng.2 ⟨ha, by simp; omega⟩) _, ?_, ⟨m.set k x, by simp, own_setI hl2 k x⟩, ⟨l, hl0, ?_⟩, h.dis, h.bL, h.bS⟩
  · rw [heap_setCell_other _ _ _ _ (by simp; omega)]; exact h.box
  · exact own_fr hl ((Fr.refl [g] w).setCell (by simp) _) (by intro j hj hm2; simp at hm2; subst hm2; exact h.dis _ rfl hj)
set_option maxHeartbeats 12800000 in
set_option maxRecDepth 100000 in
theorem rectwoOwn_walk (dense : Bool) (first over : Int) (na : Option Addr) (nc : Nat) (labs : List Int) (nb : Option Addr) (nd : Nat) (nsl : List UInt8) (live : Bool) (fr tu fp tp fn tn ty ov : Int) (ra : Option Addr) (rc : Nat) (rsl : List UInt8) (w : World) (hll : labs.length ≤ 17592186044000) (hnl : na = none → nc = 0) (hi : Ints w na labs) (hns : nsl.length ≤ 140737488351300) (hnb : nb = none → nd = 0) (hb : Bytes w nb nsl) (hrs : rsl.length ≤ 140737488351300) (hrb : ra = none → rc = 0) (hc : Bytes w ra rsl) :
    Calls Try.prog 10 #[.agg #[.bool dense, .int .i64 first, .int .i64 over, .slice na labs.length nc, .slice nb nsl.length nd], .agg #[.bool live, .int .i64 fr, .int .i64 tu, .int .i64 fp, .int .i64 tp, .int .i64 fn, .int .i64 tn, .int .i64 ty, .int .i64 ov, .slice ra rsl.length rc]] w fun e w' => e = .returned (.bool true) ∧ Fr [] w w' := by
  have HI := Lib.hid hi
  have HB := Lib.hid hb
  have HC := Lib.hid hc
  have HNL := Lib.hid hnl
  have HNB := Lib.hid hnb
  have HRB := Lib.hid hrb
  have hl4 : labs.length ≤ 140737488351300 := by omega
  have HL4 := Lib.hid hl4
  clear hi hb hc hnl hnb hrb hll hl4
  go_enter Try.func10, Try.ntmps10
  go_wp2_with fail
  obtain ⟨wa, hwa⟩ : ∃ wa, wa = (w.alloc (.cells #[.bool dense, .int .i64 first, .int .i64 over, .slice na labs.length nc, .slice nb nsl.length nd] 54)).alloc (.cells #[.bool live, .int .i64 fr, .int .i64 tu, .int .i64 fp, .int .i64 tp, .int .i64 fn, .int .i64 tn, .int .i64 ty, .int .i64 ov, .slice ra rsl.length rc] 27) := ⟨_, rfl⟩
  rw [← hwa]
  have hfa : Fr [] w wa := by rw [hwa]; exact ((Fr.refl _ _).alloc _).alloc _
  have hna : wa.heap[w.heap.size]? = some (.cells #[.bool dense, .int .i64 first, .int .i64 over, .slice na labs.length nc, .slice nb nsl.length nd] 54) := by rw [hwa]; exact heap_alloc2_old w _ _
  have hra : wa.heap[w.heap.size + 1]? = some (.cells #[.bool live, .int .i64 fr, .int .i64 tu, .int .i64 fp, .int .i64 tp, .int .i64 fn, .int .i64 tn, .int .i64 ty, .int .i64 ov, .slice ra rsl.length rc] 27) := by rw [hwa]; exact heap_alloc2_new w _ _
  clear hwa
  refine (speaks15 wa).mono ?_
  rintro e w1 ⟨rfl, hf1⟩
  have hn1 := hf1.obj hna (by simp)
  have hr1 := hf1.obj hra (by simp)
  have HN1 := Lib.hid hn1
  have HR1 := Lib.hid hr1
  have HF1 := Lib.hid (hfa.trans hf1)
  have hlt1 := (Array.getElem?_eq_some_iff.1 hr1).1
  have x0 := cell_of_row w1 _ 0 _ _ _ hn1
  have x1 := cell_of_row w1 _ 1 _ _ _ hn1
  have x2 := cell_of_row w1 _ 2 _ _ _ hn1
  have x3 := cell_of_row w1 _ 3 _ _ _ hn1
  have x4 := cell_of_row w1 _ 4 _ _ _ hn1
  clear hfa hna hra hf1 hn1 hr1
  go_wp2_with fail
  refine (refPutNode_gen dense first over na nc labs nb nd nsl w1 HL4.out (HI.out.keep HF1.out) (HB.out.keep HF1.out)).mono ?_
  rintro e w2 ⟨_, lb, x, rfl, hv, hlb, hx⟩
  obtain ⟨gb, cb, rfl, hgb, hgbl, hbb, hf2⟩ := hv.bytes
  have hr2 := hf2.obj HR1.out (by simp)
  have HG1 := Lib.hid hf2
  have HF2 := Lib.hid (HF1.out.trans hf2)
  have HBB := Lib.hid hbb
  have HX := Lib.hid hx
  have S1 := Lib.hid hf2.size
  clear hv hbb hx hf2 x0 x1 x2 x3 x4
  have x0 := cell_of_row w2 _ 0 _ _ _ hr2
  have x1 := cell_of_row w2 _ 1 _ _ _ hr2
  have x2 := cell_of_row w2 _ 2 _ _ _ hr2
  have x3 := cell_of_row w2 _ 3 _ _ _ hr2
  have x4 := cell_of_row w2 _ 4 _ _ _ hr2
  have x5 := cell_of_row w2 _ 5 _ _ _ hr2
  have x6 := cell_of_row w2 _ 6 _ _ _ hr2
  have x7 := cell_of_row w2 _ 7 _ _ _ hr2
  have x8 := cell_of_row w2 _ 8 _ _ _ hr2
  have x9 := cell_of_row w2 _ 9 _ _ _ hr2
  clear hr2
  go_wp2_with fail
  refine (refPutRel_gen live fr tu fp tp fn tn ty ov ra rc rsl w2 (HC.out.keep HF2.out)).mono ?_
  rintro e w3 ⟨_, lc, y, rfl, hv, hlc, hy⟩
  obtain ⟨gc, cc, rfl, hgc, hgcl, hbc, hf3⟩ := hv.bytes
  have HG2 := Lib.hid hf3
  have HBC := Lib.hid hbc
  have HY := Lib.hid hy
  have S2 := Lib.hid hf3.size
  clear hv hbc hy hf3 x0 x1 x2 x3 x4 x5 x6 x7 x8 x9
  go_wp2_with fail
  refine (clone_any (some ⟨gb, 0, none⟩) cb lb w3 (by omega) (fun h => by cases h) (HBB.out.keep HG2.out)).mono ?_
  rintro e w4 ⟨_, rfl, hv⟩
  obtain ⟨gi, ci, rfl, hgi, hgil, hoi, hf4⟩ := hv
  have HG3 := Lib.hid hf4
  have HOI := Lib.hid hoi
  have HBI := Lib.hid (bytes_own hoi)
  have S3 := Lib.hid hf4.size
  clear hoi hf4
  go_wp2_with fail
  refine (clone_any (some ⟨gc, 0, none⟩) cc lc w4 (by omega) (fun h => by cases h) (HBC.out.keep HG3.out)).mono ?_
  rintro e w5 ⟨_, rfl, hv⟩
  obtain ⟨gr, cr, rfl, hgr, hgrl, hor, hf5⟩ := hv
  have HG4 := Lib.hid hf5
  have HOR := Lib.hid hor
  have HBR := Lib.hid (bytes_own hor)
  have S4 := Lib.hid hf5.size
  clear hor hf5
  go_wp2_with fail
  refine (GetNode_gen (some ⟨gi, 0, none⟩) ci lb w5 (HBI.out.keep HG4.out)).mono ?_
  rintro e w6 ⟨md, mf, mo, mla, mlc, mL, msa, msc, mS, mx, rfl, hmL, hmS, hmd, hml, hms, _, hf6⟩
  have HML := Lib.hid hmL
  have HMS := Lib.hid hmS
  have HMD := Lib.hid hmd
  have HML8 := Lib.hid hml
  have HMS48 := Lib.hid hms
  have HG5 := Lib.hid hf6
  have S5 := Lib.hid hf6.size
  clear hmL hmS hmd hml hms hf6
  go_wp2_with fail
  obtain ⟨w7, hw7⟩ : ∃ w7, w7 = w6.alloc (.cells #[.bool md, .int .i64 mf, .int .i64 mo, .slice mla mL.length mlc, .slice msa mS.length msc] 54) := ⟨_, rfl⟩
  rw [← hw7]
  have HG6 := Lib.hid (show Fr [] w6 w7 by rw [hw7]; exact (Fr.refl _ _).alloc _)
  have HM7 := Lib.hid (show w7.heap[w6.heap.size]? = some (.cells #[.bool md, .int .i64 mf, .int .i64 mo, .slice mla mL.length mlc, .slice msa mS.length msc] 54) by rw [hw7]; exact heap_alloc_new w6 _)
  have S6 := Lib.hid (show w7.heap.size = w6.heap.size + 1 by rw [hw7]; simp)
  clear hw7
  refine (GetNode_gen (some ⟨gi, 0, none⟩) ci lb w7 (HBI.out.keep (HG4.out.trans (HG5.out.trans HG6.out)))).mono ?_
  rintro e w8 ⟨kd, kf, ko, kla, klc, kL, ksa, ksc, kS, kx, rfl, hkL, hkS, _, _, _, hkn, hf8⟩
  have HKL := Lib.hid hkL
  have HKS := Lib.hid hkS
  have HKN := Lib.hid hkn
  have HG7 := Lib.hid hf8
  have S7 := Lib.hid hf8.size
  clear hkL hkS hkn hf8
  go_wp2_with fail
  obtain ⟨w9, hw9⟩ : ∃ w9, w9 = w8.alloc (.cells #[.bool kd, .int .i64 kf, .int .i64 ko, .slice kla kL.length klc, .slice ksa kS.length ksc] 54) := ⟨_, rfl⟩
  rw [← hw9]
  have HG8 := Lib.hid (show Fr [] w8 w9 by rw [hw9]; exact (Fr.refl _ _).alloc _)
  have HK9 := Lib.hid (show w9.heap[w8.heap.size]? = some (.cells #[.bool kd, .int .i64 kf, .int .i64 ko, .slice kla kL.length klc, .slice ksa kS.length ksc] 54) by rw [hw9]; exact heap_alloc_new w8 _)
  have S8 := Lib.hid (show w9.heap.size = w8.heap.size + 1 by rw [hw9]; simp)
  clear hw9
  refine (GetRel_gen (some ⟨gr, 0, none⟩) cr lc w9 (HBR.out.keep (HG5.out.trans (HG6.out.trans (HG7.out.trans HG8.out))))).mono ?_
  rintro e w10 ⟨sb, sz1, sz2, sz3, sz4, sz5, sz6, sz7, sz8, ssa, ssc, sS, sx, rfl, hsS, hss, _, hf10⟩
  have HSS := Lib.hid hsS
  have HSS32 := Lib.hid hss
  have HG9 := Lib.hid hf10
  have S9 := Lib.hid hf10.size
  clear hsS hss hf10
  go_wp2_with fail
  obtain ⟨w11, hw11⟩ : ∃ w11, w11 = w10.alloc (.cells #[.bool sb, .int .i64 sz1, .int .i64 sz2, .int .i64 sz3, .int .i64 sz4, .int .i64 sz5, .int .i64 sz6, .int .i64 sz7, .int .i64 sz8, .slice ssa sS.length ssc] 27) := ⟨_, rfl⟩
  rw [← hw11]
  have HG10 := Lib.hid (show Fr [] w10 w11 by rw [hw11]; exact (Fr.refl _ _).alloc _)
  have HS11 := Lib.hid (show w11.heap[w10.heap.size]? = some (.cells #[.bool sb, .int .i64 sz1, .int .i64 sz2, .int .i64 sz3, .int .i64 sz4, .int .i64 sz5, .int .i64 sz6, .int .i64 sz7, .int .i64 sz8, .slice ssa sS.length ssc] 27) by rw [hw11]; exact heap_alloc_new w10 _)
  have S10 := Lib.hid (show w11.heap.size = w10.heap.size + 1 by rw [hw11]; simp)
  clear hw11
  refine (GetRel_gen (some ⟨gr, 0, none⟩) cr lc w11 (HBR.out.keep (HG5.out.trans (HG6.out.trans (HG7.out.trans (HG8.out.trans (HG9.out.trans HG10.out))))))).mono ?_
  rintro e w12 ⟨tb, tz1, tz2, tz3, tz4, tz5, tz6, tz7, tz8, tsa, tsc, tS, tx, rfl, htS, _, htr, hf12⟩
  have HTS := Lib.hid htS
  have HTR := Lib.hid htr
  have HG11 := Lib.hid hf12
  have S11 := Lib.hid hf12.size
  clear htS htr hf12
  obtain ⟨w13, hw13⟩ : ∃ w13, w13 = w12.alloc (.cells #[.bool tb, .int .i64 tz1, .int .i64 tz2, .int .i64 tz3, .int .i64 tz4, .int .i64 tz5, .int .i64 tz6, .int .i64 tz7, .int .i64 tz8, .slice tsa tS.length tsc] 27) := ⟨_, rfl⟩
  have HG12 := Lib.hid (show Fr [] w12 w13 by rw [hw13]; exact (Fr.refl _ _).alloc _)
  have HT13 := Lib.hid (show w13.heap[w12.heap.size]? = some (.cells #[.bool tb, .int .i64 tz1, .int .i64 tz2, .int .i64 tz3, .int .i64 tz4, .int .i64 tz5, .int .i64 tz6, .int .i64 tz7, .int .i64 tz8, .slice tsa tS.length tsc] 27) by rw [hw13]; exact heap_alloc_new w12 _)
  have S12 := Lib.hid (show w13.heap.size = w12.heap.size + 1 by rw [hw13]; simp)
  have hx0 := cell_of_row w13 _ 4 _ _ _ ((HG7.out.trans (HG8.out.trans (HG9.out.trans (HG10.out.trans (HG11.out.trans HG12.out))))).obj HM7.out (by simp))
  rw [hw13] at hx0
  have HW13 := Lib.hid hw13
  clear hw13
  go_wp2_with fail
  rw [← HW13.out]
  have G7 := HG7.out.trans (HG8.out.trans (HG9.out.trans (HG10.out.trans (HG11.out.trans HG12.out))))
  have G6 := HG6.out.trans G7
  have htwo : Two w5.heap.size w6.heap.size w13 w13 (.slice mla mL.length mlc) mL.length (.slice msa mS.length msc) mS.length (.cells #[.bool md, .int .i64 mf, .int .i64 mo, .slice mla mL.length mlc, .slice msa mS.length msc] 54) :=
    ⟨Fr.refl _ _, G7.obj HM7.out (by simp), ⟨mL, rfl, own_fr HML.out G6 (by simp)⟩, ⟨mS, rfl, own_fr HMS.out G6 (by simp)⟩, HMD.out, fun g hg => (own_lt HML.out hg).2, fun g hg => (own_lt HMS.out hg).2⟩
  have HTWO := Lib.hid htwo
  have HG6' := Lib.hid G6
  have HG7' := Lib.hid G7
  have hms48 := HMS48.out
  have hml8 := HML8.out
  clear htwo G6 G7 hx0
  go_loopw [19, 63] (fun _ i wr => ∃ k : Nat, k ≤ mS.length ∧ i = .int .i64 k ∧ Two w5.heap.size w6.heap.size w13 wr (.slice mla mL.length mlc) mL.length (.slice msa mS.length msc) mS.length (.cells #[.bool md, .int .i64 mf, .int .i64 mo, .slice mla mL.length mlc, .slice msa mS.length msc] 54)) (fun _ i _ => mS.length - (intOf i).toNat)
  case atStart => exact ⟨0, by omega, rfl, HTWO.out⟩
  case round =>
    obtain ⟨k, hk, rfl, htw⟩ := hrel
    have HTW := Lib.hid htw
    have x3 := cell_of_row wr _ 3 _ _ _ htw.box
    have x4 := cell_of_row wr _ 4 _ _ _ htw.box
    by_cases hlt : k < mS.length
    · obtain ⟨l', hl', hown⟩ := htw.S
      obtain ⟨g, rfl, hg⟩ := own_addr hown (by omega)
      have hcell : ∃ y, wr.cell? ⟨g, k, none⟩ = some y := by
        rw [← hl'] at hown
        obtain ⟨b0, o0, e0, h0⟩ := (bytes_own hown).at (by omega)
        cases e0
        have := h0 k (by omega)
        rw [Nat.zero_add] at this
        exact ⟨_, this⟩
      obtain ⟨y, hcell⟩ := hcell
      have hfz := own_free hown (g := g) rfl k
      have hset := htw.setS k 238
      have hI : B8 238 = .int .u8 238 := by unfold B8; rw [show I8 238 = 238 by decide +kernel]
      rw [hI] at hset
      have HSET := Lib.hid hset
      clear hown hset hI htw hl'
      go_wp2_with fail
      go_roundw
      case rel => exact ⟨k + 1, by omega, by go_num, HSET.out⟩
      case measure => simp [intOf] <;> omega
    · clear htw
      go_wp2_with fail
      go_loopw [20, 74] (fun _ i wr => ∃ k : Nat, k ≤ mL.length ∧ i = .int .i64 k ∧ Two w5.heap.size w6.heap.size w13 wr (.slice mla mL.length mlc) mL.length (.slice msa mS.length msc) mS.length (.cells #[.bool md, .int .i64 mf, .int .i64 mo, .slice mla mL.length mlc, .slice msa mS.length msc] 54)) (fun _ i _ => mL.length - (intOf i).toNat)
      case atStart => exact ⟨0, by omega, rfl, HTW.out⟩
      case round =>
        obtain ⟨k2, hk2, rfl, htw⟩ := hrel
        clear x3 x4 HTW
        have HTW := Lib.hid htw
        have x3 := cell_of_row wr _ 3 _ _ _ htw.box
        have x4 := cell_of_row wr _ 4 _ _ _ htw.box
        have xf3 := frozen_of_row wr _ 3 _ _ htw.box
        have xf4 := frozen_of_row wr _ 4 _ _ htw.box
        by_cases hlt2 : k2 < mL.length
        · obtain ⟨l', hl', hown⟩ := htw.L
          obtain ⟨g, rfl, hg⟩ := own_addr hown (by omega)
          have hcell : ∃ y, wr.cell? ⟨g, k2, none⟩ = some y := by
            rw [← hl'] at hown
            obtain ⟨b0, o0, e0, h0⟩ := (ints_own hown).at (by omega)
            cases e0
            have := h0 k2 (by omega)
            rw [Nat.zero_add] at this
            exact ⟨_, this⟩
          obtain ⟨y, hcell⟩ := hcell
          have hfz := own_free hown (g := g) rfl k2
          have hset := htw.setL k2 (-7)
          have HSET := Lib.hid hset
          clear hown hset htw hl'
          go_wp2_with fail
          go_roundw
          case rel => exact ⟨k2 + 1, by omega, by go_num, HSET.out⟩
          case measure => simp [intOf] <;> omega
        · obtain ⟨l', hl', hown⟩ := htw.S
          obtain ⟨m', hm', hownL⟩ := htw.L
          have hI : B8 238 = .int .u8 238 := by unfold B8; rw [show I8 238 = 238 by decide +kernel]
          have hoa : (wr.alloc (.cells #[.int .u8 238] 5)).ownsRow w5.heap.size 5 1 (.slice msa mS.length msc) l'.length (l'.map B8) := by rw [hl']; exact World.ownsRow.alloc hown _
          have hol : (wr.alloc (.cells #[.int .u8 238] 5)).ownsRow w5.heap.size 3 1 (.slice mla mL.length mlc) m'.length (m'.map (Value.int .i64)) := by rw [hm']; exact World.ownsRow.alloc hownL _
          have hb1 : Bytes (wr.alloc (.cells #[.int .u8 238] 5)) (some ⟨wr.heap.size, 0, none⟩) [238] := Bytes.new [238] rfl (by simp [hI])
          have hbx : (wr.alloc (.cells #[.int .u8 238] 5)).heap[w6.heap.size]? = some (.cells #[.bool md, .int .i64 mf, .int .i64 mo, .slice mla mL.length mlc, .slice msa mS.length msc] 54) := ((Fr.refl [] wr).alloc _).obj htw.box (by simp)
          have hsz1 : w13.heap.size ≤ wr.heap.size := htw.fr.size
          have hbase : w5.heap.size ≤ wr.heap.size + 1 := by have := S5.out; have := S6.out; have := S7.out; have := S8.out; have := S9.out; have := S10.out; have := S11.out; have := S12.out; omega
          have HOA := Lib.hid hoa
          have HOL := Lib.hid hol
          have HB1 := Lib.hid hb1
          have HBX := Lib.hid hbx
          have HL1 := Lib.hid hl'
          have HM1 := Lib.hid hm'
          have HBASE := Lib.hid hbase
          clear hown hownL hI hoa hol hb1 hbx hsz1 hl' hm' hbase htw
          go_wp2_with (first
            | (at_builtin; refine wpList_apB _ rfl _ _ 25 rfl w5.heap.size 5 Try.underlying25 info8 (.slice msa mS.length msc) l' rfl HOA.out (some ⟨wr.heap.size, 0, none⟩) 1 1 [238] rfl rfl HB1.out (fun h => by cases h) (by have := HL1.out; omega) (by have := HBASE.out; simp; omega) ?_; intro v' w14 happ; have hx5 : ∃ a5 n5 c5, v' = .slice a5 n5 c5 := (by obtain ⟨a, c, e, _⟩ := Bytes.of_own happ.own; exact ⟨_, _, _, e⟩); obtain ⟨a5, n5, c5, rfl⟩ := hx5; have hbx14 := happ.fr.obj HBX.out (by intro hm; have := HTW.out.bS w6.heap.size (by simpa using hm); omega); have HBX14 := Lib.hid hbx14; have HOL14 := Lib.hid (own_fr HOL.out happ.fr (by intro j hj hm; exact HTW.out.dis j hj (by simpa using hm))); have HFR14 := Lib.hid ((HTW.out.fr.alloc _).next happ.fr (by intro i hi _; exact mem_rng.2 ⟨(own_lt HOA.out (by simpa using hi)).1, by have := HTW.out.bS i (by simpa using hi); omega⟩)); have y3 := cell_of_row w14 _ 3 _ _ _ hbx14; have y4 := cell_of_row w14 _ 4 _ _ _ hbx14; have yf3 := frozen_of_row w14 _ 3 _ _ hbx14; have yf4 := frozen_of_row w14 _ 4 _ _ hbx14; have hs14 := Lib.hid (show wr.heap.size + 1 ≤ w14.heap.size by have := happ.fr.size; simpa using this); clear happ hbx14 x3 x4 xf3 xf4)
            | (at_builtin; refine wpList_appS _ rfl _ _ 52 rfl w5.heap.size 3 (.int .i64 0) 1 8 Try.underlying52 infoI rfl (by decide) (.slice mla mL.length mlc) m'.length (m'.map (Value.int .i64)) rfl (World.ownsRow.alloc (own_fr HOL14.out ((Fr.refl [w6.heap.size] w14).setCell (by simp) _) (by intro j hj hm; have := HTW.out.bL j hj; simp at hm; omega)) _) (some ⟨w14.heap.size, 0, none⟩) 1 1 [.int .i64 (-7)] rfl rfl (news_one (by simp)) (fun h => by cases h) (by simp [Value.oneCell']) (by have := HM1.out; unfold maxLen; omega) (by have := HM1.out; omega) (by have := HBASE.out; have := hs14.out; simp; omega) ?_; intro v'' w15 happ; have hx6 : ∃ a6 n6 c6, v'' = .slice a6 n6 c6 := (by have := happ.own; rw [show m'.length + 1 = (m' ++ [(-7 : Int)]).length by simp, show m'.map (Value.int .i64) ++ [.int .i64 (-7)] = (m' ++ [(-7 : Int)]).map (Value.int .i64) by simp] at this; obtain ⟨a, c, e, _⟩ := ints_of_own this; exact ⟨_, _, _, e⟩); obtain ⟨a6, n6, c6, rfl⟩ := hx6; have hbx15 := happ.fr.obj (((Fr.refl [] (w14.setCell ⟨w6.heap.size, 4, none⟩ (.slice a5 n5 c5))).alloc (.cells #[.int .i64 (-7)] 3)).obj (heap_setCell_same w14 _ 4 _ _ _ HBX14.out) (by simp)) (by intro hm; have := HTW.out.bL w6.heap.size (by simpa using hm); omega); have hfr15 := ((HFR14.out.setCell (p := ⟨w6.heap.size, 4, none⟩) (fun _ => mem_rng.2 ⟨S5.out, by simp⟩) (.slice a5 n5 c5)).alloc _).next happ.fr (by intro i hi _; exact mem_rng.2 ⟨(own_lt HOL14.out (by simpa using hi)).1, by have := HTW.out.bL i (by simpa using hi); omega⟩); have HFR15 := Lib.hid hfr15; have z3 := cell_of_row w15 _ 3 _ _ _ hbx15; have zf3 := frozen_of_row w15 _ 3 _ _ hbx15; have hsb15 := hfr15.obj ((HG11.out.trans HG12.out).obj HS11.out (by simp)) (by intro hm; have := mem_rng.1 hm; have := S6.out; have := S7.out; have := S8.out; have := S9.out; omega); have q9 := cell_of_row w15 _ 9 _ _ _ hsb15; have hne69 : ¬ w6.heap.size = w10.heap.size := (by have := S6.out; have := S7.out; have := S8.out; have := S9.out; omega); clear happ hbx15 hfr15 hsb15 y3 y4 yf3 yf4))
          obtain ⟨w16, hw16⟩ : ∃ w16, w16 = w15.setCell ⟨w6.heap.size, 3, none⟩ (.slice a6 n6 c6) := ⟨_, rfl⟩
          rw [← hw16]
          have hfr16 : Fr (rng w5.heap.size (w6.heap.size + 1)) w13 w16 := by rw [hw16]; exact HFR15.out.setCell (fun _ => mem_rng.2 ⟨S5.out, by simp⟩) _
          have hsz : w6.heap.size + 1 ≤ w9.heap.size := by have := S6.out; have := S7.out; have := S8.out; omega
          have htwo : Two w9.heap.size w10.heap.size w16 w16 (.slice none 0 0) 0 (.slice ssa sS.length ssc) sS.length (.cells #[.bool sb, .int .i64 sz1, .int .i64 sz2, .int .i64 sz3, .int .i64 sz4, .int .i64 sz5, .int .i64 sz6, .int .i64 sz7, .int .i64 sz8, .slice ssa sS.length ssc] 27) :=
            ⟨Fr.refl _ _, hfr16.obj ((HG11.out.trans HG12.out).obj HS11.out (by simp)) (by intro hm; have := mem_rng.1 hm; have := S9.out; omega), ⟨[], rfl, nil_own _ _ _ _⟩, ⟨sS, rfl, own_fr (own_fr HSS.out (HG10.out.trans (HG11.out.trans HG12.out)) (by simp)) hfr16 (by intro g hg hm; have := mem_rng.1 hm; have := (own_lt HSS.out hg).1; omega)⟩, (fun g hg => by cases hg), (fun g hg => by cases hg), fun g hg => (own_lt HSS.out hg).2⟩
          have HTWO2 := Lib.hid htwo
          have HFR16 := Lib.hid hfr16
          have hss32 := HSS32.out
          clear hw16 hfr16 hsz htwo z3 zf3 q9 hne69
          go_loopw [21, 95] (fun _ i wr => ∃ k : Nat, k ≤ sS.length ∧ i = .int .i64 k ∧ Two w9.heap.size w10.heap.size w16 wr (.slice none 0 0) 0 (.slice ssa sS.length ssc) sS.length (.cells #[.bool sb, .int .i64 sz1, .int .i64 sz2, .int .i64 sz3, .int .i64 sz4, .int .i64 sz5, .int .i64 sz6, .int .i64 sz7, .int .i64 sz8, .slice ssa sS.length ssc] 27)) (fun _ i _ => sS.length - (intOf i).toNat)
          case atStart => exact ⟨0, by omega, rfl, HTWO2.out⟩
          case round =>
            obtain ⟨k3, hk3, rfl, htw⟩ := hrel
            have HTW3 := Lib.hid htw
            have x9 := cell_of_row wr _ 9 _ _ _ htw.box
            have xf9 := frozen_of_row wr _ 9 _ _ htw.box
            by_cases hlt3 : k3 < sS.length
            · obtain ⟨l3, hl3, hown⟩ := htw.S
              obtain ⟨g, rfl, hg⟩ := own_addr hown (by omega)
              have hcell : ∃ y, wr.cell? ⟨g, k3, none⟩ = some y := by
                rw [← hl3] at hown
                obtain ⟨b0, o0, e0, h0⟩ := (bytes_own hown).at (by omega)
                cases e0
                have := h0 k3 (by omega)
                rw [Nat.zero_add] at this
                exact ⟨_, this⟩
              obtain ⟨y, hcell⟩ := hcell
              have hfz := own_free hown (g := g) rfl k3
              have hset := htw.setS k3 238
              have hI : B8 238 = .int .u8 238 := by unfold B8; rw [show I8 238 = 238 by decide +kernel]
              rw [hI] at hset
              have HSET := Lib.hid hset
              clear hown hset hI htw hl3
              go_wp2_with fail
              go_roundw
              case rel => exact ⟨k3 + 1, by omega, by go_num, HSET.out⟩
              case measure => simp [intOf] <;> omega
            · obtain ⟨l3, hl3, hown⟩ := htw.S
              have hI : B8 238 = .int .u8 238 := by unfold B8; rw [show I8 238 = 238 by decide +kernel]
              have hoa : (wr.alloc (.cells #[.int .u8 238] 5)).ownsRow w9.heap.size 5 1 (.slice ssa sS.length ssc) l3.length (l3.map B8) := by rw [hl3]; exact World.ownsRow.alloc hown _
              have hb1 : Bytes (wr.alloc (.cells #[.int .u8 238] 5)) (some ⟨wr.heap.size, 0, none⟩) [238] := Bytes.new [238] rfl (by simp [hI])
              have hbx : (wr.alloc (.cells #[.int .u8 238] 5)).heap[w10.heap.size]? = some (.cells #[.bool sb, .int .i64 sz1, .int .i64 sz2, .int .i64 sz3, .int .i64 sz4, .int .i64 sz5, .int .i64 sz6, .int .i64 sz7, .int .i64 sz8, .slice ssa sS.length ssc] 27) := ((Fr.refl [] wr).alloc _).obj htw.box (by simp)
              have hbase : w9.heap.size ≤ wr.heap.size + 1 := by have := htw.fr.size; have := HFR16.out.size; have := S9.out; have := S10.out; have := S11.out; have := S12.out; omega
              have HOA3 := Lib.hid hoa
              have HB3 := Lib.hid hb1
              have HBX3 := Lib.hid hbx
              have HL3 := Lib.hid hl3
              have HBASE3 := Lib.hid hbase
              have hle910 : w9.heap.size ≤ w10.heap.size := S9.out
              have HLE := Lib.hid hle910
              clear hown hI hoa hb1 hbx hbase hl3 htw hle910
              go_upto_region 29 with (at_builtin; refine wpList_apB _ rfl _ _ 25 rfl w9.heap.size 5 Try.underlying25 info8 (.slice ssa sS.length ssc) l3 rfl HOA3.out (some ⟨wr.heap.size, 0, none⟩) 1 1 [238] rfl rfl HB3.out (fun h => by cases h) (by have := HL3.out; omega) (by have := HBASE3.out; simp; omega) ?_; intro v' w17 happ; have hx5 : ∃ a7 n7 c7, v' = .slice a7 n7 c7 := (by obtain ⟨a, c, e, _⟩ := Bytes.of_own happ.own; exact ⟨_, _, _, e⟩); obtain ⟨a7, n7, c7, rfl⟩ := hx5; have hbx17 := happ.fr.obj HBX3.out (by intro hm; have := HTW3.out.bS w10.heap.size (by simpa using hm); omega); have hfr17 := (HTW3.out.fr.alloc _).next happ.fr (by intro i hi _; exact mem_rng.2 ⟨(own_lt HOA3.out (by simpa using hi)).1, by have := HTW3.out.bS i (by simpa using hi); omega⟩); have HFR17 := Lib.hid hfr17; have y9 := cell_of_row w17 _ 9 _ _ _ hbx17; have yf9 := frozen_of_row w17 _ 9 _ _ hbx17; have hrb := hfr17.obj (HFR16.out.obj ((HG1.out.trans (HG2.out.trans (HG3.out.trans (HG4.out.trans (HG5.out.trans (HG6.out.trans HG7'.out)))))).obj HR1.out (by simp)) (by intro hm; have := mem_rng.1 hm; have := S1.out; have := S2.out; have := S3.out; have := S4.out; omega)) (by intro hm; have := mem_rng.1 hm; have := S1.out; have := S2.out; have := S3.out; have := S4.out; have := S5.out; have := S6.out; have := S7.out; have := S8.out; omega); have HRB17 := Lib.hid hrb; have r0 := cell_of_row w17 _ 0 _ _ _ hrb; have rf0 := frozen_of_row w17 _ 0 _ _ hrb; clear happ hbx17 hfr17 hrb x9 xf9)
              obtain ⟨w18, hw18⟩ : ∃ w18, w18 = (w17.setCell ⟨w10.heap.size, 9, none⟩ (.slice a7 n7 c7)).setCell ⟨w.heap.size + 1, 0, none⟩ (.bool true) := ⟨_, rfl⟩
              rw [← hw18]
              have hne : w.heap.size + 1 < w10.heap.size := by
                have s1 := S1.out; have s2 := S2.out; have s3 := S3.out; have s4 := S4.out; have s5 := S5.out; have s6 := S6.out; have s7 := S7.out; have s8 := S8.out; have s9 := S9.out
                omega
              have h17 : (w17.setCell ⟨w10.heap.size, 9, none⟩ (.slice a7 n7 c7)).heap[w.heap.size + 1]? = some (.cells #[.bool live, .int .i64 fr, .int .i64 tu, .int .i64 fp, .int .i64 tp, .int .i64 fn, .int .i64 tn, .int .i64 ty, .int .i64 ov, .slice ra rsl.length rc] 27) := by
                rw [heap_setCell_other _ _ _ _ (by simp; omega)]; exact HRB17.out
              have hr18 : w18.heap[w.heap.size + 1]? = some (.cells #[.bool true, .int .i64 fr, .int .i64 tu, .int .i64 fp, .int .i64 tp, .int .i64 fn, .int .i64 tn, .int .i64 ty, .int .i64 ov, .slice ra rsl.length rc] 27) := by
                rw [hw18]; exact heap_setCell_same _ _ 0 _ _ _ h17
              have hfr18 : Fr (rng w5.heap.size (w6.heap.size + 1) ++ (rng w9.heap.size (w10.heap.size + 1) ++ [w.heap.size + 1])) w13 w18 := by
                rw [hw18]
                exact ((((HFR16.out.mono (T := rng w5.heap.size (w6.heap.size + 1) ++ (rng w9.heap.size (w10.heap.size + 1) ++ [w.heap.size + 1])) fun k hk _ => List.mem_append.2 (.inl hk)).next HFR17.out fun i hi _ => List.mem_append.2 (.inr (List.mem_append.2 (.inl hi)))).setCell (p := ⟨w10.heap.size, 9, none⟩) (fun _ => List.mem_append.2 (.inr (List.mem_append.2 (.inl (mem_rng.2 ⟨HLE.out, by simp⟩))))) _).setCell (p := ⟨w.heap.size + 1, 0, none⟩) (fun _ => by simp) _)
              have HR18 := Lib.hid hr18
              have HFR18 := Lib.hid hfr18
              clear hw18 hr18 hfr18 y9 yf9 r0 rf0
              have s1 := S1.out; have s2 := S2.out; have s3 := S3.out; have s4 := S4.out; have s5 := S5.out; have s6 := S6.out; have s7 := S7.out; have s8 := S8.out; have s9 := S9.out; have s10 := S10.out; have s11 := S11.out; have s12 := S12.out
              have hK : ∀ i, ((i < w5.heap.size ∧ i ≠ w.heap.size + 1) ∨ (w6.heap.size < i ∧ i < w9.heap.size) ∨ w10.heap.size < i) → i ∉ (rng w5.heap.size (w6.heap.size + 1) ++ (rng w9.heap.size (w10.heap.size + 1) ++ [w.heap.size + 1])) := by
                intro i h hm
                rcases List.mem_append.1 hm with hm | hm
                · have := mem_rng.1 hm; omega
                · rcases List.mem_append.1 hm with hm | hm
                  · have := mem_rng.1 hm; omega
                  · simp at hm; omega
              have g12 := HG12.out
              have g11 := HG11.out.trans g12
              have g9 := HG9.out.trans (HG10.out.trans g11)
              have g8 := HG8.out.trans g9
              have g4 := HG4.out.trans (HG5.out.trans HG6'.out)
              have hN18 := HFR18.out.obj ((HG1.out.trans (HG2.out.trans (HG3.out.trans g4))).obj HN1.out (by simp)) (hK _ (.inl (by omega)))
              have hK18 := HFR18.out.obj (g9.obj HK9.out (by simp)) (hK _ (.inr (.inl (by omega))))
              have hT18 := HFR18.out.obj HT13.out (hK _ (.inr (.inr (by omega))))
              have hkL18 := own_fr (own_fr HKL.out g8 (by simp)) HFR18.out (fun g hg => hK g (.inr (.inl (by have := own_lt HKL.out hg; omega))))
              have hkS18 := own_fr (own_fr HKS.out g8 (by simp)) HFR18.out (fun g hg => hK g (.inr (.inl (by have := own_lt HKS.out hg; omega))))
              have htS18 := own_fr (own_fr HTS.out g12 (by simp)) HFR18.out (fun g hg => hK g (.inr (.inr (by have := own_lt HTS.out hg; omega))))
              have hI18 := own_fr (own_fr HOI.out g4 (by simp)) HFR18.out (fun g hg => hK g (.inl (by have := own_lt HOI.out hg; omega)))
              have hR18' := own_fr (own_fr HOR.out (HG5.out.trans HG6'.out) (by simp)) HFR18.out (fun g hg => hK g (.inl (by have := own_lt HOR.out hg; omega)))
              have f12 := HG2.out.trans (HG3.out.trans g4)
              have hB18 := (HBB.out.keep f12).fr HFR18.out (.inr fun ad e => by cases e; exact hK gb (.inl (by omega)))
              have hC18 := (HBC.out.keep (HG3.out.trans g4)).fr HFR18.out (.inr fun ad e => by cases e; exact hK gc (.inl (by omega)))
              have F18 : Fr [w.heap.size + 1] w w18 := (((HF1.out.trans (HG1.out.trans f12)).mono (T := [w.heap.size + 1]) fun k hk _ => (List.not_mem_nil hk).elim).next HFR18.out fun i hi hlt => by
                rcases List.mem_append.1 hi with hm | hm
                · have := mem_rng.1 hm; omega
                · rcases List.mem_append.1 hm with hm | hm
                  · have := mem_rng.1 hm; omega
                  · exact hm)
              have HSN := Lib.hid (show x = 0 → ∀ w', Ints w' kla kL → Bytes w' ksa kS → Ints w' na labs → Bytes w' nb nsl → Calls Try.prog 27 #[.agg #[.bool kd, .int .i64 kf, .int .i64 ko, .slice kla kL.length klc, .slice ksa kS.length ksc], .agg #[.bool dense, .int .i64 first, .int .i64 over, .slice na labs.length nc, .slice nb nsl.length nd]] w' (fun e w'' => e = .returned (.bool true) ∧ Fr [] w' w'') from by
                intro hx w' h1 h2 h3 h4
                obtain ⟨hfine, hlbe⟩ := HX.out hx
                have hkeq := HKN.out _ hfine hlbe
                have hz := own_none hkS18
                simp only [NodeV.mk.injEq] at hkeq
                obtain ⟨q1, q2, q3, q4, q5⟩ := hkeq
                rw [q4] at h1 ⊢; rw [q5] at h2 ⊢; rw [q1, q2, q3]
                exact SameNode_eq _ _ _ kla na klc nc _ ksa nb ksc nd _ w' HL4.out h1 h3 hz HNB.out h2 h4)
              have HSR := Lib.hid (show y = 0 → ∀ w', Bytes w' tsa tS → Bytes w' ra rsl → Calls Try.prog 17 #[.agg #[.bool tb, .int .i64 tz1, .int .i64 tz2, .int .i64 tz3, .int .i64 tz4, .int .i64 tz5, .int .i64 tz6, .int .i64 tz7, .int .i64 tz8, .slice tsa tS.length tsc], .agg #[.bool true, .int .i64 fr, .int .i64 tu, .int .i64 fp, .int .i64 tp, .int .i64 fn, .int .i64 tn, .int .i64 ty, .int .i64 ov, .slice ra rsl.length rc]] w' (fun e w'' => e = .returned (.bool true) ∧ Fr [] w' w'') from by
                intro hy w' h1 h2
                obtain ⟨hfine, hlce⟩ := HY.out hy
                exact SameRel_any _ _ _ _ _ _ _ _ _ _ _ _ _ _ _ _ _ _ tsa ra tsc rc _ _ w' (own_none htS18) HRB.out h1 h2 (HTR.out _ hfine hlce))
              have HQ := Lib.hid (show ∀ w', Fr [gi, gr] w18 w' → w'.heap[w.heap.size]? = some (.cells #[.bool dense, .int .i64 first, .int .i64 over, .slice na labs.length nc, .slice nb nsl.length nd] 54) ∧ w'.heap[w8.heap.size]? = some (.cells #[.bool kd, .int .i64 kf, .int .i64 ko, .slice kla kL.length klc, .slice ksa kS.length ksc] 54) ∧ w'.heap[w12.heap.size]? = some (.cells #[.bool tb, .int .i64 tz1, .int .i64 tz2, .int .i64 tz3, .int .i64 tz4, .int .i64 tz5, .int .i64 tz6, .int .i64 tz7, .int .i64 tz8, .slice tsa tS.length tsc] 27) ∧ w'.heap[w.heap.size + 1]? = some (.cells #[.bool true, .int .i64 fr, .int .i64 tu, .int .i64 fp, .int .i64 tp, .int .i64 fn, .int .i64 tn, .int .i64 ty, .int .i64 ov, .slice ra rsl.length rc] 27) ∧ Ints w' kla kL ∧ Bytes w' ksa kS ∧ Ints w' na labs ∧ Bytes w' nb nsl ∧ Bytes w' tsa tS ∧ Bytes w' ra rsl ∧ Fr [] w w' from by
                intro w' F
                have Fw : Fr [w.heap.size + 1, gi, gr] w w' := (F18.mono (T := [w.heap.size + 1, gi, gr]) (by intro k hk _; simp at hk; simp [hk])).next F (by intro i hi _; simp at hi; simp; omega)
                have hlow : ∀ k, k < w.heap.size → k ∉ [w.heap.size + 1, gi, gr] := by intro k hk; simp; omega
                refine ⟨F.obj hN18 (by simp; omega), F.obj hK18 (by simp; omega), F.obj hT18 (by simp; omega), F.obj HR18.out (by simp; omega), ints_own (own_fr hkL18 F (fun g hg => by have := own_lt HKL.out hg; simp; omega)), bytes_own (own_fr hkS18 F (fun g hg => by have := own_lt HKS.out hg; simp; omega)), HI.out.fr Fw (ints_low HI.out hlow), HB.out.fr Fw (bytes_low HB.out hlow), bytes_own (own_fr htS18 F (fun g hg => by have := own_lt HTS.out hg; simp; omega)), HC.out.fr Fw (bytes_low HC.out hlow), Fw.mono (by intro k hk hlt; exact absurd hk (hlow k hlt))⟩)
              have HIN18 := Lib.hid (Row.of hI18)
              have HRAW18 := Lib.hid (Row.of hR18')
              have HIB := Lib.hid (bytes_own hI18)
              have HRB18 := Lib.hid (bytes_own hR18')
              have HB18 := Lib.hid hB18
              have HC18 := Lib.hid hC18
              have hne1 : gi ≠ gr := by omega
              clear hN18 hK18 hT18 hkL18 hkS18 htS18 hI18 hR18' hB18 hC18 F18 g12 g11 g9 g8 g4 f12 hK h17 hss32 hms48 hml8 s1 s2 s3 s4 s5 s6 s7 s8 s9 s10 s11 s12
              by_cases hx : x = 0
              · by_cases hy : y = 0
                · have hx2 : (x == 0) = true := by simp [hx]
                  have hx3 : (x != 0) = false := by simp [hx]
                  have hy2 : (y == 0) = true := by simp [hy]
                  have hy3 : (y != 0) = false := by simp [hy]
                  have HXX := Lib.hid hx
                  have HYY := Lib.hid hy
                  clear hx hy
                  obtain ⟨qN, qK, _, _, e1, e2, e3, e4, _⟩ := HQ.out w18 (Fr.refl [gi, gr] w18)
                  have n0 := cell_of_row w18 _ 0 _ _ _ qN
                  have n1 := cell_of_row w18 _ 1 _ _ _ qN
                  have n2 := cell_of_row w18 _ 2 _ _ _ qN
                  have n3 := cell_of_row w18 _ 3 _ _ _ qN
                  have n4 := cell_of_row w18 _ 4 _ _ _ qN
                  have k0 := cell_of_row w18 _ 0 _ _ _ qK
                  have k1 := cell_of_row w18 _ 1 _ _ _ qK
                  have k2 := cell_of_row w18 _ 2 _ _ _ qK
                  have k3 := cell_of_row w18 _ 3 _ _ _ qK
                  have k4 := cell_of_row w18 _ 4 _ _ _ qK
                  clear qN qK
                  have E1 := Lib.hid e1
                  have E2 := Lib.hid e2
                  have E3 := Lib.hid e3
                  have E4 := Lib.hid e4
                  clear e1 e2 e3 e4
                  go_wp2_with fail
                  refine (HSN.out HXX.out w18 E1.out E2.out E3.out E4.out).mono ?_
                  rintro e w18a ⟨rfl, hf⟩
                  have HFaw18a := Lib.hid hf
                  clear hf n0 n1 n2 n3 n4 k0 k1 k2 k3 k4 E1 E2 E3 E4
                  obtain ⟨_, _, qT, qR, _, _, _, _, e1, e2, _⟩ := HQ.out w18a ((Fr.refl [gi, gr] w18).trans (HFaw18a.out.mono (by simp)))
                  have t0 := cell_of_row w18a _ 0 _ _ _ qT
                  have t1 := cell_of_row w18a _ 1 _ _ _ qT
                  have t2 := cell_of_row w18a _ 2 _ _ _ qT
                  have t3 := cell_of_row w18a _ 3 _ _ _ qT
                  have t4 := cell_of_row w18a _ 4 _ _ _ qT
                  have t5 := cell_of_row w18a _ 5 _ _ _ qT
                  have t6 := cell_of_row w18a _ 6 _ _ _ qT
                  have t7 := cell_of_row w18a _ 7 _ _ _ qT
                  have t8 := cell_of_row w18a _ 8 _ _ _ qT
                  have t9 := cell_of_row w18a _ 9 _ _ _ qT
                  have r0 := cell_of_row w18a _ 0 _ _ _ qR
                  have r1 := cell_of_row w18a _ 1 _ _ _ qR
                  have r2 := cell_of_row w18a _ 2 _ _ _ qR
                  have r3 := cell_of_row w18a _ 3 _ _ _ qR
                  have r4 := cell_of_row w18a _ 4 _ _ _ qR
                  have r5 := cell_of_row w18a _ 5 _ _ _ qR
                  have r6 := cell_of_row w18a _ 6 _ _ _ qR
                  have r7 := cell_of_row w18a _ 7 _ _ _ qR
                  have r8 := cell_of_row w18a _ 8 _ _ _ qR
                  have r9 := cell_of_row w18a _ 9 _ _ _ qR
                  clear qT qR
                  have E1 := Lib.hid e1
                  have E2 := Lib.hid e2
                  clear e1 e2
                  go_wp2_with fail
                  refine (HSR.out HYY.out w18a E1.out E2.out).mono ?_
                  rintro e w18ab ⟨rfl, hf⟩
                  have HFaw18ab := Lib.hid hf
                  clear hf t0 t1 t2 t3 t4 t5 t6 t7 t8 t9 r0 r1 r2 r3 r4 r5 r6 r7 r8 r9 E1 E2
                  obtain ⟨w20, hw20⟩ : ∃ w20, w20 = w18ab := ⟨_, rfl⟩
                  have F20 : Fr [] w18 w20 := by rw [hw20]; exact (((Fr.refl [] w18).trans HFaw18a.out).trans HFaw18ab.out)
                  rw [← hw20]
                  have HF20 := Lib.hid F20
                  clear hw20 F20
                  have hs := same_any (some ⟨gi, 0, none⟩) (some ⟨gb, 0, none⟩) ci cb lb lb w20 (fun h => by cases h) (fun h => by cases h) (HIB.out.keep HF20.out) (HB18.out.keep HF20.out)
                  have hs' := same_any (some ⟨gr, 0, none⟩) (some ⟨gc, 0, none⟩) cr cc lc lc w20 (fun h => by cases h) (fun h => by cases h) (HRB18.out.keep HF20.out) (HC18.out.keep HF20.out)
                  rw [beq_self_eq_true] at hs hs'
                  have HS := Lib.hid hs
                  have HS' := Lib.hid hs'
                  clear hs hs'
                  go_wp2_with fail
                  refine HS.out.mono ?_
                  rintro e _ ⟨rfl, rfl⟩
                  go_wp2_with fail
                  refine HS'.out.mono ?_
                  rintro e _ ⟨rfl, rfl⟩
                  go_wp2_with fail
                  go_loopw [22, 142] (fun _ i wr => ∃ k : Nat, k ≤ lb.length ∧ i = .int .i64 k ∧ Fr [gi] w20 wr ∧ Row wr w3.heap.size gi lb.length ci) (fun _ i _ => lb.length - (intOf i).toNat)
                  case atStart => exact ⟨0, by omega, rfl, Fr.refl _ _, HIN18.out.keep HF20.out (by simp)⟩
                  case round =>
                    obtain ⟨k4, hk4, rfl, hf4, hrow⟩ := hrel
                    have HF4 := Lib.hid hf4
                    have HROW := Lib.hid hrow
                    clear hf4 hrow
                    by_cases hlt4 : k4 < lb.length
                    · obtain ⟨y4, hcell⟩ := HROW.out.cell hlt4
                      have hfz := HROW.out.free k4; have HLT4 := Lib.hid (show k4 + 1 ≤ lb.length from hlt4)
                      go_wp2_with fail
                      go_roundw
                      case rel => exact ⟨k4 + 1, HLT4.out, by go_num, HF4.out.setCell (by simp) _, HROW.out.set k4 221 (by omega)⟩
                      case measure => have := HLT4.out; simp [intOf] <;> omega
                    · go_wp2_with fail
                      obtain ⟨w21, hw21⟩ : ∃ w21, w21 = wr := ⟨_, rfl⟩
                      subst hw21
                      have HR21 := Lib.hid ((HRAW18.out.keep HF20.out (by simp)).keep HF4.out (by simp; omega))
                      go_loopw [23, 151] (fun _ i wr => ∃ k : Nat, k ≤ lc.length ∧ i = .int .i64 k ∧ Fr [gr] w21 wr ∧ Row wr w4.heap.size gr lc.length cr) (fun _ i _ => lc.length - (intOf i).toNat)
                      case atStart => exact ⟨0, by omega, rfl, Fr.refl _ _, HR21.out⟩
                      case round =>
                        obtain ⟨k5, hk5, rfl, hf5, hrow⟩ := hrel
                        have HF5r := Lib.hid hf5
                        have HROW5 := Lib.hid hrow
                        clear hf5 hrow
                        by_cases hlt5 : k5 < lc.length
                        · obtain ⟨y5, hcell⟩ := HROW5.out.cell hlt5
                          have hfz := HROW5.out.free k5; have HLT5 := Lib.hid (show k5 + 1 ≤ lc.length from hlt5)
                          go_wp2_with fail
                          go_roundw
                          case rel => exact ⟨k5 + 1, HLT5.out, by go_num, HF5r.out.setCell (by simp) _, HROW5.out.set k5 221 (by omega)⟩
                          case measure => have := HLT5.out; simp [intOf] <;> omega
                        · have hch := ((HF20.out.mono (T := [gi, gr]) (by simp)).trans (HF4.out.mono (by simp))).trans (HF5r.out.mono (T := [gi, gr]) (by simp))
                          have HCH := Lib.hid hch
                          clear hch
                          obtain ⟨qN, qK, _, _, e1, e2, e3, e4, _⟩ := HQ.out wr HCH.out
                          have n0 := cell_of_row wr _ 0 _ _ _ qN
                          have n1 := cell_of_row wr _ 1 _ _ _ qN
                          have n2 := cell_of_row wr _ 2 _ _ _ qN
                          have n3 := cell_of_row wr _ 3 _ _ _ qN
                          have n4 := cell_of_row wr _ 4 _ _ _ qN
                          have k0 := cell_of_row wr _ 0 _ _ _ qK
                          have k1 := cell_of_row wr _ 1 _ _ _ qK
                          have k2 := cell_of_row wr _ 2 _ _ _ qK
                          have k3 := cell_of_row wr _ 3 _ _ _ qK
                          have k4 := cell_of_row wr _ 4 _ _ _ qK
                          clear qN qK
                          have E1 := Lib.hid e1
                          have E2 := Lib.hid e2
                          have E3 := Lib.hid e3
                          have E4 := Lib.hid e4
                          clear e1 e2 e3 e4
                          go_wp2_with fail
                          refine (HSN.out HXX.out wr E1.out E2.out E3.out E4.out).mono ?_
                          rintro e w22a ⟨rfl, hf⟩
                          have HFaw22a := Lib.hid hf
                          clear hf n0 n1 n2 n3 n4 k0 k1 k2 k3 k4 E1 E2 E3 E4
                          obtain ⟨_, _, qT, qR, _, _, _, _, e1, e2, _⟩ := HQ.out w22a (HCH.out.trans (HFaw22a.out.mono (by simp)))
                          have t0 := cell_of_row w22a _ 0 _ _ _ qT
                          have t1 := cell_of_row w22a _ 1 _ _ _ qT
                          have t2 := cell_of_row w22a _ 2 _ _ _ qT
                          have t3 := cell_of_row w22a _ 3 _ _ _ qT
                          have t4 := cell_of_row w22a _ 4 _ _ _ qT
                          have t5 := cell_of_row w22a _ 5 _ _ _ qT
                          have t6 := cell_of_row w22a _ 6 _ _ _ qT
                          have t7 := cell_of_row w22a _ 7 _ _ _ qT
                          have t8 := cell_of_row w22a _ 8 _ _ _ qT
                          have t9 := cell_of_row w22a _ 9 _ _ _ qT
                          have r0 := cell_of_row w22a _ 0 _ _ _ qR
                          have r1 := cell_of_row w22a _ 1 _ _ _ qR
                          have r2 := cell_of_row w22a _ 2 _ _ _ qR
                          have r3 := cell_of_row w22a _ 3 _ _ _ qR
                          have r4 := cell_of_row w22a _ 4 _ _ _ qR
                          have r5 := cell_of_row w22a _ 5 _ _ _ qR
                          have r6 := cell_of_row w22a _ 6 _ _ _ qR
                          have r7 := cell_of_row w22a _ 7 _ _ _ qR
                          have r8 := cell_of_row w22a _ 8 _ _ _ qR
                          have r9 := cell_of_row w22a _ 9 _ _ _ qR
                          clear qT qR
                          have E1 := Lib.hid e1
                          have E2 := Lib.hid e2
                          clear e1 e2
                          go_wp2_with fail
                          refine (HSR.out HYY.out w22a E1.out E2.out).mono ?_
                          rintro e w22ab ⟨rfl, hf⟩
                          have HFaw22ab := Lib.hid hf
                          clear hf t0 t1 t2 t3 t4 t5 t6 t7 t8 t9 r0 r1 r2 r3 r4 r5 r6 r7 r8 r9 E1 E2
                          go_wp2
                          go_ret
                          exact ⟨rfl, (HQ.out w22ab ((HCH.out.trans (HFaw22a.out.mono (by simp))).trans (HFaw22ab.out.mono (by simp)))).2.2.2.2.2.2.2.2.2.2⟩
                · have hx2 : (x == 0) = true := by simp [hx]
                  have hx3 : (x != 0) = false := by simp [hx]
                  have hy2 : (y == 0) = false := by simp [hy]
                  have hy3 : (y != 0) = true := by simp [hy]
                  have HXX := Lib.hid hx
                  have HYY := Lib.hid hy
                  clear hx hy
                  obtain ⟨qN, qK, _, _, e1, e2, e3, e4, _⟩ := HQ.out w18 (Fr.refl [gi, gr] w18)
                  have n0 := cell_of_row w18 _ 0 _ _ _ qN
                  have n1 := cell_of_row w18 _ 1 _ _ _ qN
                  have n2 := cell_of_row w18 _ 2 _ _ _ qN
                  have n3 := cell_of_row w18 _ 3 _ _ _ qN
                  have n4 := cell_of_row w18 _ 4 _ _ _ qN
                  have k0 := cell_of_row w18 _ 0 _ _ _ qK
                  have k1 := cell_of_row w18 _ 1 _ _ _ qK
                  have k2 := cell_of_row w18 _ 2 _ _ _ qK
                  have k3 := cell_of_row w18 _ 3 _ _ _ qK
                  have k4 := cell_of_row w18 _ 4 _ _ _ qK
                  clear qN qK
                  have E1 := Lib.hid e1
                  have E2 := Lib.hid e2
                  have E3 := Lib.hid e3
                  have E4 := Lib.hid e4
                  clear e1 e2 e3 e4
                  go_wp2_with fail
                  refine (HSN.out HXX.out w18 E1.out E2.out E3.out E4.out).mono ?_
                  rintro e w18a ⟨rfl, hf⟩
                  have HFaw18a := Lib.hid hf
                  clear hf n0 n1 n2 n3 n4 k0 k1 k2 k3 k4 E1 E2 E3 E4
                  obtain ⟨w20, hw20⟩ : ∃ w20, w20 = w18a := ⟨_, rfl⟩
                  have F20 : Fr [] w18 w20 := by rw [hw20]; exact ((Fr.refl [] w18).trans HFaw18a.out)
                  rw [← hw20]
                  have HF20 := Lib.hid F20
                  clear hw20 F20
                  have hs := same_any (some ⟨gi, 0, none⟩) (some ⟨gb, 0, none⟩) ci cb lb lb w20 (fun h => by cases h) (fun h => by cases h) (HIB.out.keep HF20.out) (HB18.out.keep HF20.out)
                  have hs' := same_any (some ⟨gr, 0, none⟩) (some ⟨gc, 0, none⟩) cr cc lc lc w20 (fun h => by cases h) (fun h => by cases h) (HRB18.out.keep HF20.out) (HC18.out.keep HF20.out)
                  rw [beq_self_eq_true] at hs hs'
                  have HS := Lib.hid hs
                  have HS' := Lib.hid hs'
                  clear hs hs'
                  go_wp2_with fail
                  refine HS.out.mono ?_
                  rintro e _ ⟨rfl, rfl⟩
                  go_wp2_with fail
                  refine HS'.out.mono ?_
                  rintro e _ ⟨rfl, rfl⟩
                  go_wp2_with fail
                  go_loopw [22, 142] (fun _ i wr => ∃ k : Nat, k ≤ lb.length ∧ i = .int .i64 k ∧ Fr [gi] w20 wr ∧ Row wr w3.heap.size gi lb.length ci) (fun _ i _ => lb.length - (intOf i).toNat)
                  case atStart => exact ⟨0, by omega, rfl, Fr.refl _ _, HIN18.out.keep HF20.out (by simp)⟩
                  case round =>
                    obtain ⟨k4, hk4, rfl, hf4, hrow⟩ := hrel
                    have HF4 := Lib.hid hf4
                    have HROW := Lib.hid hrow
                    clear hf4 hrow
                    by_cases hlt4 : k4 < lb.length
                    · obtain ⟨y4, hcell⟩ := HROW.out.cell hlt4
                      have hfz := HROW.out.free k4; have HLT4 := Lib.hid (show k4 + 1 ≤ lb.length from hlt4)
                      go_wp2_with fail
                      go_roundw
                      case rel => exact ⟨k4 + 1, HLT4.out, by go_num, HF4.out.setCell (by simp) _, HROW.out.set k4 221 (by omega)⟩
                      case measure => have := HLT4.out; simp [intOf] <;> omega
                    · go_wp2_with fail
                      obtain ⟨w21, hw21⟩ : ∃ w21, w21 = wr := ⟨_, rfl⟩
                      subst hw21
                      have HR21 := Lib.hid ((HRAW18.out.keep HF20.out (by simp)).keep HF4.out (by simp; omega))
                      go_loopw [23, 151] (fun _ i wr => ∃ k : Nat, k ≤ lc.length ∧ i = .int .i64 k ∧ Fr [gr] w21 wr ∧ Row wr w4.heap.size gr lc.length cr) (fun _ i _ => lc.length - (intOf i).toNat)
                      case atStart => exact ⟨0, by omega, rfl, Fr.refl _ _, HR21.out⟩
                      case round =>
                        obtain ⟨k5, hk5, rfl, hf5, hrow⟩ := hrel
                        have HF5r := Lib.hid hf5
                        have HROW5 := Lib.hid hrow
                        clear hf5 hrow
                        by_cases hlt5 : k5 < lc.length
                        · obtain ⟨y5, hcell⟩ := HROW5.out.cell hlt5
                          have hfz := HROW5.out.free k5; have HLT5 := Lib.hid (show k5 + 1 ≤ lc.length from hlt5)
                          go_wp2_with fail
                          go_roundw
                          case rel => exact ⟨k5 + 1, HLT5.out, by go_num, HF5r.out.setCell (by simp) _, HROW5.out.set k5 221 (by omega)⟩
                          case measure => have := HLT5.out; simp [intOf] <;> omega
                        · have hch := ((HF20.out.mono (T := [gi, gr]) (by simp)).trans (HF4.out.mono (by simp))).trans (HF5r.out.mono (T := [gi, gr]) (by simp))
                          have HCH := Lib.hid hch
                          clear hch
                          obtain ⟨qN, qK, _, _, e1, e2, e3, e4, _⟩ := HQ.out wr HCH.out
                          have n0 := cell_of_row wr _ 0 _ _ _ qN
                          have n1 := cell_of_row wr _ 1 _ _ _ qN
                          have n2 := cell_of_row wr _ 2 _ _ _ qN
                          have n3 := cell_of_row wr _ 3 _ _ _ qN
                          have n4 := cell_of_row wr _ 4 _ _ _ qN
                          have k0 := cell_of_row wr _ 0 _ _ _ qK
                          have k1 := cell_of_row wr _ 1 _ _ _ qK
                          have k2 := cell_of_row wr _ 2 _ _ _ qK
                          have k3 := cell_of_row wr _ 3 _ _ _ qK
                          have k4 := cell_of_row wr _ 4 _ _ _ qK
                          clear qN qK
                          have E1 := Lib.hid e1
                          have E2 := Lib.hid e2
                          have E3 := Lib.hid e3
                          have E4 := Lib.hid e4
                          clear e1 e2 e3 e4
                          go_wp2_with fail
                          refine (HSN.out HXX.out wr E1.out E2.out E3.out E4.out).mono ?_
                          rintro e w22a ⟨rfl, hf⟩
                          have HFaw22a := Lib.hid hf
                          clear hf n0 n1 n2 n3 n4 k0 k1 k2 k3 k4 E1 E2 E3 E4
                          go_wp2
                          go_ret
                          exact ⟨rfl, (HQ.out w22a (HCH.out.trans (HFaw22a.out.mono (by simp)))).2.2.2.2.2.2.2.2.2.2⟩
              · by_cases hy : y = 0
                · have hx2 : (x == 0) = false := by simp [hx]
                  have hx3 : (x != 0) = true := by simp [hx]
                  have hy2 : (y == 0) = true := by simp [hy]
                  have hy3 : (y != 0) = false := by simp [hy]
                  have HXX := Lib.hid hx
                  have HYY := Lib.hid hy
                  clear hx hy
                  obtain ⟨_, _, qT, qR, _, _, _, _, e1, e2, _⟩ := HQ.out w18 (Fr.refl [gi, gr] w18)
                  have t0 := cell_of_row w18 _ 0 _ _ _ qT
                  have t1 := cell_of_row w18 _ 1 _ _ _ qT
                  have t2 := cell_of_row w18 _ 2 _ _ _ qT
                  have t3 := cell_of_row w18 _ 3 _ _ _ qT
                  have t4 := cell_of_row w18 _ 4 _ _ _ qT
                  have t5 := cell_of_row w18 _ 5 _ _ _ qT
                  have t6 := cell_of_row w18 _ 6 _ _ _ qT
                  have t7 := cell_of_row w18 _ 7 _ _ _ qT
                  have t8 := cell_of_row w18 _ 8 _ _ _ qT
                  have t9 := cell_of_row w18 _ 9 _ _ _ qT
                  have r0 := cell_of_row w18 _ 0 _ _ _ qR
                  have r1 := cell_of_row w18 _ 1 _ _ _ qR
                  have r2 := cell_of_row w18 _ 2 _ _ _ qR
                  have r3 := cell_of_row w18 _ 3 _ _ _ qR
                  have r4 := cell_of_row w18 _ 4 _ _ _ qR
                  have r5 := cell_of_row w18 _ 5 _ _ _ qR
                  have r6 := cell_of_row w18 _ 6 _ _ _ qR
                  have r7 := cell_of_row w18 _ 7 _ _ _ qR
                  have r8 := cell_of_row w18 _ 8 _ _ _ qR
                  have r9 := cell_of_row w18 _ 9 _ _ _ qR
                  clear qT qR
                  have E1 := Lib.hid e1
                  have E2 := Lib.hid e2
                  clear e1 e2
                  go_wp2_with fail
                  refine (HSR.out HYY.out w18 E1.out E2.out).mono ?_
                  rintro e w18b ⟨rfl, hf⟩
                  have HFaw18b := Lib.hid hf
                  clear hf t0 t1 t2 t3 t4 t5 t6 t7 t8 t9 r0 r1 r2 r3 r4 r5 r6 r7 r8 r9 E1 E2
                  obtain ⟨w20, hw20⟩ : ∃ w20, w20 = w18b := ⟨_, rfl⟩
                  have F20 : Fr [] w18 w20 := by rw [hw20]; exact ((Fr.refl [] w18).trans HFaw18b.out)
                  rw [← hw20]
                  have HF20 := Lib.hid F20
                  clear hw20 F20
                  have hs := same_any (some ⟨gi, 0, none⟩) (some ⟨gb, 0, none⟩) ci cb lb lb w20 (fun h => by cases h) (fun h => by cases h) (HIB.out.keep HF20.out) (HB18.out.keep HF20.out)
                  have hs' := same_any (some ⟨gr, 0, none⟩) (some ⟨gc, 0, none⟩) cr cc lc lc w20 (fun h => by cases h) (fun h => by cases h) (HRB18.out.keep HF20.out) (HC18.out.keep HF20.out)
                  rw [beq_self_eq_true] at hs hs'
                  have HS := Lib.hid hs
                  have HS' := Lib.hid hs'
                  clear hs hs'
                  go_wp2_with fail
                  refine HS.out.mono ?_
                  rintro e _ ⟨rfl, rfl⟩
                  go_wp2_with fail
                  refine HS'.out.mono ?_
                  rintro e _ ⟨rfl, rfl⟩
                  go_wp2_with fail
                  go_loopw [22, 142] (fun _ i wr => ∃ k : Nat, k ≤ lb.length ∧ i = .int .i64 k ∧ Fr [gi] w20 wr ∧ Row wr w3.heap.size gi lb.length ci) (fun _ i _ => lb.length - (intOf i).toNat)
                  case atStart => exact ⟨0, by omega, rfl, Fr.refl _ _, HIN18.out.keep HF20.out (by simp)⟩
                  case round =>
                    obtain ⟨k4, hk4, rfl, hf4, hrow⟩ := hrel
                    have HF4 := Lib.hid hf4
                    have HROW := Lib.hid hrow
                    clear hf4 hrow
                    by_cases hlt4 : k4 < lb.length
                    · obtain ⟨y4, hcell⟩ := HROW.out.cell hlt4
                      have hfz := HROW.out.free k4; have HLT4 := Lib.hid (show k4 + 1 ≤ lb.length from hlt4)
                      go_wp2_with fail
                      go_roundw
                      case rel => exact ⟨k4 + 1, HLT4.out, by go_num, HF4.out.setCell (by simp) _, HROW.out.set k4 221 (by omega)⟩
                      case measure => have := HLT4.out; simp [intOf] <;> omega
                    · go_wp2_with fail
                      obtain ⟨w21, hw21⟩ : ∃ w21, w21 = wr := ⟨_, rfl⟩
                      subst hw21
                      have HR21 := Lib.hid ((HRAW18.out.keep HF20.out (by simp)).keep HF4.out (by simp; omega))
                      go_loopw [23, 151] (fun _ i wr => ∃ k : Nat, k ≤ lc.length ∧ i = .int .i64 k ∧ Fr [gr] w21 wr ∧ Row wr w4.heap.size gr lc.length cr) (fun _ i _ => lc.length - (intOf i).toNat)
                      case atStart => exact ⟨0, by omega, rfl, Fr.refl _ _, HR21.out⟩
                      case round =>
                        obtain ⟨k5, hk5, rfl, hf5, hrow⟩ := hrel
                        have HF5r := Lib.hid hf5
                        have HROW5 := Lib.hid hrow
                        clear hf5 hrow
                        by_cases hlt5 : k5 < lc.length
                        · obtain ⟨y5, hcell⟩ := HROW5.out.cell hlt5
                          have hfz := HROW5.out.free k5; have HLT5 := Lib.hid (show k5 + 1 ≤ lc.length from hlt5)
                          go_wp2_with fail
                          go_roundw
                          case rel => exact ⟨k5 + 1, HLT5.out, by go_num, HF5r.out.setCell (by simp) _, HROW5.out.set k5 221 (by omega)⟩
                          case measure => have := HLT5.out; simp [intOf] <;> omega
                        · have hch := ((HF20.out.mono (T := [gi, gr]) (by simp)).trans (HF4.out.mono (by simp))).trans (HF5r.out.mono (T := [gi, gr]) (by simp))
                          have HCH := Lib.hid hch
                          clear hch
                          obtain ⟨_, _, qT, qR, _, _, _, _, e1, e2, _⟩ := HQ.out wr HCH.out
                          have t0 := cell_of_row wr _ 0 _ _ _ qT
                          have t1 := cell_of_row wr _ 1 _ _ _ qT
                          have t2 := cell_of_row wr _ 2 _ _ _ qT
                          have t3 := cell_of_row wr _ 3 _ _ _ qT
                          have t4 := cell_of_row wr _ 4 _ _ _ qT
                          have t5 := cell_of_row wr _ 5 _ _ _ qT
                          have t6 := cell_of_row wr _ 6 _ _ _ qT
                          have t7 := cell_of_row wr _ 7 _ _ _ qT
                          have t8 := cell_of_row wr _ 8 _ _ _ qT
                          have t9 := cell_of_row wr _ 9 _ _ _ qT
                          have r0 := cell_of_row wr _ 0 _ _ _ qR
                          have r1 := cell_of_row wr _ 1 _ _ _ qR
                          have r2 := cell_of_row wr _ 2 _ _ _ qR
                          have r3 := cell_of_row wr _ 3 _ _ _ qR
                          have r4 := cell_of_row wr _ 4 _ _ _ qR
                          have r5 := cell_of_row wr _ 5 _ _ _ qR
                          have r6 := cell_of_row wr _ 6 _ _ _ qR
                          have r7 := cell_of_row wr _ 7 _ _ _ qR
                          have r8 := cell_of_row wr _ 8 _ _ _ qR
                          have r9 := cell_of_row wr _ 9 _ _ _ qR
                          clear qT qR
                          have E1 := Lib.hid e1
                          have E2 := Lib.hid e2
                          clear e1 e2
                          go_wp2_with fail
                          refine (HSR.out HYY.out wr E1.out E2.out).mono ?_
                          rintro e w22b ⟨rfl, hf⟩
                          have HFaw22b := Lib.hid hf
                          clear hf t0 t1 t2 t3 t4 t5 t6 t7 t8 t9 r0 r1 r2 r3 r4 r5 r6 r7 r8 r9 E1 E2
                          go_wp2
                          go_ret
                          exact ⟨rfl, (HQ.out w22b (HCH.out.trans (HFaw22b.out.mono (by simp)))).2.2.2.2.2.2.2.2.2.2⟩
                · have hx2 : (x == 0) = false := by simp [hx]
                  have hx3 : (x != 0) = true := by simp [hx]
                  have hy2 : (y == 0) = false := by simp [hy]
                  have hy3 : (y != 0) = true := by simp [hy]
                  have HXX := Lib.hid hx
                  have HYY := Lib.hid hy
                  clear hx hy
                  obtain ⟨w20, hw20⟩ : ∃ w20, w20 = w18 := ⟨_, rfl⟩
                  have F20 : Fr [] w18 w20 := by rw [hw20]; exact (Fr.refl [] w18)
                  rw [← hw20]
                  have HF20 := Lib.hid F20
                  clear hw20 F20
                  have hs := same_any (some ⟨gi, 0, none⟩) (some ⟨gb, 0, none⟩) ci cb lb lb w20 (fun h => by cases h) (fun h => by cases h) (HIB.out.keep HF20.out) (HB18.out.keep HF20.out)
                  have hs' := same_any (some ⟨gr, 0, none⟩) (some ⟨gc, 0, none⟩) cr cc lc lc w20 (fun h => by cases h) (fun h => by cases h) (HRB18.out.keep HF20.out) (HC18.out.keep HF20.out)
                  rw [beq_self_eq_true] at hs hs'
                  have HS := Lib.hid hs
                  have HS' := Lib.hid hs'
                  clear hs hs'
                  go_wp2_with fail
                  refine HS.out.mono ?_
                  rintro e _ ⟨rfl, rfl⟩
                  go_wp2_with fail
                  refine HS'.out.mono ?_
                  rintro e _ ⟨rfl, rfl⟩
                  go_wp2_with fail
                  go_loopw [22, 142] (fun _ i wr => ∃ k : Nat, k ≤ lb.length ∧ i = .int .i64 k ∧ Fr [gi] w20 wr ∧ Row wr w3.heap.size gi lb.length ci) (fun _ i _ => lb.length - (intOf i).toNat)
                  case atStart => exact ⟨0, by omega, rfl, Fr.refl _ _, HIN18.out.keep HF20.out (by simp)⟩
                  case round =>
                    obtain ⟨k4, hk4, rfl, hf4, hrow⟩ := hrel
                    have HF4 := Lib.hid hf4
                    have HROW := Lib.hid hrow
                    clear hf4 hrow
                    by_cases hlt4 : k4 < lb.length
                    · obtain ⟨y4, hcell⟩ := HROW.out.cell hlt4
                      have hfz := HROW.out.free k4; have HLT4 := Lib.hid (show k4 + 1 ≤ lb.length from hlt4)
                      go_wp2_with fail
                      go_roundw
                      case rel => exact ⟨k4 + 1, HLT4.out, by go_num, HF4.out.setCell (by simp) _, HROW.out.set k4 221 (by omega)⟩
                      case measure => have := HLT4.out; simp [intOf] <;> omega
                    · go_wp2_with fail
                      obtain ⟨w21, hw21⟩ : ∃ w21, w21 = wr := ⟨_, rfl⟩
                      subst hw21
                      have HR21 := Lib.hid ((HRAW18.out.keep HF20.out (by simp)).keep HF4.out (by simp; omega))
                      go_loopw [23, 151] (fun _ i wr => ∃ k : Nat, k ≤ lc.length ∧ i = .int .i64 k ∧ Fr [gr] w21 wr ∧ Row wr w4.heap.size gr lc.length cr) (fun _ i _ => lc.length - (intOf i).toNat)
                      case atStart => exact ⟨0, by omega, rfl, Fr.refl _ _, HR21.out⟩
                      case round =>
                        obtain ⟨k5, hk5, rfl, hf5, hrow⟩ := hrel
                        have HF5r := Lib.hid hf5
                        have HROW5 := Lib.hid hrow
                        clear hf5 hrow
                        by_cases hlt5 : k5 < lc.length
                        · obtain ⟨y5, hcell⟩ := HROW5.out.cell hlt5
                          have hfz := HROW5.out.free k5; have HLT5 := Lib.hid (show k5 + 1 ≤ lc.length from hlt5)
                          go_wp2_with fail
                          go_roundw
                          case rel => exact ⟨k5 + 1, HLT5.out, by go_num, HF5r.out.setCell (by simp) _, HROW5.out.set k5 221 (by omega)⟩
                          case measure => have := HLT5.out; simp [intOf] <;> omega
                        · have hch := ((HF20.out.mono (T := [gi, gr]) (by simp)).trans (HF4.out.mono (by simp))).trans (HF5r.out.mono (T := [gi, gr]) (by simp))
                          have HCH := Lib.hid hch
                          clear hch
                          go_wp2
                          go_ret
                          exact ⟨rfl, (HQ.out wr HCH.out).2.2.2.2.2.2.2.2.2.2⟩
end Go.Proofs.Ytmekplamjlnhcaa
