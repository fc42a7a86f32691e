/- Blocks: Load. -/
import Derived.Test.YtkcipbjikimlfaaBkF
namespace Go.Proofs.Ytkcipbjikimlfaa
open Go.RowKit Go.Maps
attribute [local go_sem ↓] Go.wp_at_zero Go.wp_at_succ
theorem AL.cell {w : World} {B n k : Nat} {v : Value} {X : List BI} (h : AL w B v X) (hk : k < X.length) (hn : n = X.length) : ∃ g c, v = .slice (some ⟨g, 0, none⟩) n c ∧
    w.cell? ⟨g, k * 4, none⟩ = some (.int .i64 (pSt X[k].d)) ∧ w.cell? ⟨g, k * 4 + 1, none⟩ = some (.int .i64 (pUs X[k].d)) ∧ w.cell? ⟨g, k * 4 + 2, none⟩ = some (.int .i64 (pNx X[k].d)) ∧ w.cell? ⟨g, k * 4 + 3, none⟩ = some X[k].v := by
  subst hn
  rcases h.row.2 with ⟨rfl, h0⟩ | ⟨g, cap, cur, rfl, hb, hh, _⟩
  · omega
  · have hc := h.row.cells (g := g) rfl
    refine ⟨g, cap, rfl, ?_, ?_, ?_, ?_⟩
    · have := hc (k * 4) _ (biCells_get X k hk 0 (by omega)); rw [addO, Nat.zero_add] at this; exact this
    · have := hc (k * 4 + 1) _ (biCells_get X k hk 1 (by omega)); rw [addO, Nat.zero_add] at this; exact this
    · have := hc (k * 4 + 2) _ (biCells_get X k hk 2 (by omega)); rw [addO, Nat.zero_add] at this; exact this
    · have := hc (k * 4 + 3) _ (biCells_get X k hk 3 (by omega)); rw [addO, Nat.zero_add] at this; exact this
theorem pieces_le (R : Recs) : ∀ (L : List Nat), (L.flatMap (pieceR R)).length ≤ 25 * L.length
  | [] => by simp
  | i :: L => by
    have h1 := pieces_le R L
    have h2 := pieceR_le R i
    rw [List.flatMap_cons, List.length_append, List.length_cons]
    omega
set_option maxRecDepth 100000 in
set_option maxHeartbeats 3200000 in
theorem Load_F (B : Nat) (bs : List Nat) (w : World) (p : Nat) (s : RFS) (first : Int) (h : RF B bs w p s) :
    Calls Try.prog 11 #[.pointer (some ⟨p, 0, none⟩), .int .i64 first] w fun e w' => ∃ v, e = .returned (.tuple #[v, .int .i64 (walkE s first).2]) ∧ Got w.heap.size w w' v (loadE s first) := by
  have HA := Lib.hid (along_F B bs w p s first h)
  have HOK := Lib.hid h.ok
  have HSN := Lib.hid (walkE_snd (s := s) (first := first))
  have HLE := Lib.hid (walkE_len (first := first) h)
  unfold loadE
  unfold AlP at HA
  obtain ⟨L, hL⟩ : ∃ L, L = (walkE s first).1 := ⟨_, rfl⟩
  obtain ⟨E, hE⟩ : ∃ E, E = (walkE s first).2 := ⟨_, rfl⟩
  rw [← hL] at HSN HLE
  rw [← hL, ← hE]
  rw [← hL, ← hE] at HA
  clear h hL hE
  go_enter Try.func11, Try.ntmps11
  go_wp2_with fail
  refine HA.out.mono ?_
  rintro e w1 ⟨v4, v5, X, rfl, h4, h5, hx, hf⟩
  obtain ⟨a5, c5, rfl⟩ := own_slR h5.row
  have hxl : X.length = L.length := by have := congrArg List.length hx; simpa using this
  have HXL := Lib.hid hxl
  have H5 := Lib.hid h5
  have HX := Lib.hid hx
  have HF := Lib.hid hf
  have hl7 := HLE.out
  clear h4 h5 hx hf hxl
  go_wp2
  go_loopw [9, 21] (fun q9 q wr => ∃ (i : Nat), i ≤ X.length ∧ q = .int .i64 i ∧ wr.ownsRow w1.heap.size 5 1 q9 ((L.take i).flatMap (pieceR s.R)).length (((L.take i).flatMap (pieceR s.R)).map B8) ∧ Fr [] w1 wr) (fun _ q _ => X.length - (intOf q).toNat)
  case atStart => exact ⟨0, by omega, rfl, World.ownsRow_nil _ _ _ _, Fr.refl _ _⟩
  case round =>
    obtain ⟨i, hi, rfl, ho, hf⟩ := hrel
    obtain ⟨acc, hacc⟩ : ∃ acc, acc = (L.take i).flatMap (pieceR s.R) := ⟨_, rfl⟩
    rw [← hacc] at ho
    have hal : acc.length ≤ 25 * 70000 := by
      have h1 := pieces_le s.R (L.take i)
      have h2 : (L.take i).length ≤ L.length := by rw [List.length_take]; omega
      rw [hacc]; omega
    obtain ⟨a9, c9, rfl⟩ := own_slR ho
    have HACC := Lib.hid hacc
    have HO := Lib.hid ho
    have HF2 := Lib.hid hf
    have HAL := Lib.hid hal
    clear ho hf hacc hal
    have hxlb : X.length ≤ 70000 := by rw [HXL.out]; exact hl7
    by_cases hlt : i < X.length
    · have hii : (i : Int) < (X.length : Int) := by omega
      have hi0 : (0 : Int) ≤ (i : Int) := by omega
      have e1 : IntKind.i64.wrap ((i : Int) + 1) = (i : Int) + 1 := IntWalk.i64_in _ (by omega)
      have hiL : i < L.length := by rw [← HXL.out]; exact hlt
      obtain ⟨k, hk⟩ : ∃ k, k = L.getD i 0 := ⟨_, rfl⟩
      obtain ⟨y, hy⟩ : ∃ y, y = X[i] := ⟨_, rfl⟩
      have hym : y ∈ X := by rw [hy]; exact List.getElem_mem hlt
      have hrk : y.d = recAt s.R k := by
        have h1 : (X.map BI.d)[i]? = (L.map (recAt s.R))[i]? := by rw [HX.out]
        rw [List.getElem?_map, List.getElem?_map, List.getElem?_eq_getElem hlt, List.getElem?_eq_getElem hiL] at h1
        have h2 := Option.some.inj h1
        rw [hy, h2, hk, List.getD_eq_getElem?_getD, List.getElem?_eq_getElem hiL]
        rfl
      have hus : pUs y.d ≤ 25 := by
        rw [hrk]
        exact sndR_used (HSN.out k (by rw [hk, List.getD_eq_getElem?_getD, List.getElem?_eq_getElem hiL]; exact List.getElem_mem hiL))
      have h5r := H5.out.keep HF2.out
      obtain ⟨g, c, e, x0, x1, x2, x3⟩ := h5r.cell hlt rfl
      simp only [Value.slice.injEq] at e
      obtain ⟨rfl, -, -⟩ := e
      rw [← hy] at x0 x1 x2 x3
      have hda := h5r.dat y hym
      obtain ⟨ya, yc, yd⟩ := y
      have hdl := hda.1
      have hyc : 25 ≤ yc := own_cap25 hda
      have hpl : (pDa yd).length = 25 := by simpa using hdl
      have hby := Bytes.of_own (l := pDa yd) (by rw [hpl]; exact hda)
      obtain ⟨ya', yc', ee, hyb, -, -, -, hyo⟩ := hby
      simp only [BI.v, Value.slice.injEq] at ee
      obtain ⟨rfl, -, rfl⟩ := ee
      obtain ⟨gy, oy, rfl, -⟩ := hyb.at (by omega)
      obtain ⟨us, hus2⟩ : ∃ us, us = pUs yd := ⟨_, rfl⟩
      have hus3 : us ≤ 25 := by rw [hus2]; exact hus
      simp only [BI.v] at x0 x1 x2 x3
      rw [← hus2] at x1
      generalize pSt yd = st at x0
      generalize pNx yd = nx at x2
      have HPC := Lib.hid (show pieceR s.R k = (pDa yd).take us by unfold pieceR; rw [← hrk, hus2])
      have HYB := Lib.hid (show Bytes wr (some ⟨gy, oy, none⟩) ((pDa yd).take us) by
        have h := hyb.sub 0 us (by omega)
        simpa using h)
      have HPL := Lib.hid (show ((pDa yd).take us).length = us by rw [List.length_take]; omega)
      have HK := Lib.hid hk
      clear hus2 hrk hus h5r hda hdl hyb hyo hk hpl hym hy
      have hc0 : ¬ yc = 0 := by omega
      have hu0 : (0 : Int) ≤ (us : Int) := by omega
      have hu1 : (us : Int) ≤ (yc : Int) := by omega
      have hfx : Fr [] wr (wr.alloc (.cells #[.int .i64 st, .int .i64 us, .int .i64 nx, .slice (some ⟨gy, oy, none⟩) 25 yc] 42)) := (Fr.refl [] wr).alloc _
      have HOW := Lib.hid (own_fr HO.out hfx (by simp))
      have HYW := Lib.hid (HYB.out.keep hfx)
      have HFW := Lib.hid (HF2.out.trans hfx)
      have HBW := Lib.hid (HF2.out.trans hfx).size
      have hal := HAL.out
      clear hfx
      go_wp2_with (at_builtin; refine wpList_appB _ rfl _ _ 30 rfl w1.heap.size 5 Try.underlying30 info8 (.slice a9 acc.length c9) acc rfl HOW.out (some ⟨gy, oy, none⟩) us yc ((pDa yd).take us) rfl HPL.out HYW.out (fun h => by cases h) (by omega) HBW.out ?_; intro v' w' ho hgr hnil; have HO2 := Lib.hid ho; have HG2 := Lib.hid hgr; clear ho hgr hnil)
      go_roundw
      case rel =>
        refine ⟨i + 1, by omega, by go_num, ?_, HFW.out.next (Fr.of_grown HG2.out ((Value.slice a9 acc.length c9).ownBlock.toList) (fun k hk _ => by simp [hk])) (fun j hj hlt2 => by have := (own_lt HOW.out (g := j) (by simpa using hj)).1; omega)⟩
        rw [take_snocD hiL, List.flatMap_append, ← HACC.out, ← HK.out]
        have e : [k].flatMap (pieceR s.R) = (pDa yd).take us := by rw [List.flatMap_cons, HPC.out]; simp
        rw [e]
        exact HO2.out
      case measure => simp [intOf] <;> omega
    · obtain rfl : i = X.length := by omega
      have hii : ¬ (X.length : Int) < (X.length : Int) := by omega
      go_wp2
      go_ret2
      have he : acc = L.flatMap (pieceR s.R) := by rw [HACC.out, HXL.out, List.take_length]
      rw [← he]
      exact ⟨.slice a9 acc.length c9, rfl, own_base HO.out HF.out.size, HF.out.trans HF2.out⟩
end Go.Proofs.Ytkcipbjikimlfaa
