/- Tokens: a new entry of the map of names, in two steps (an entry, then its value). -/
import Derived.Test.YtlckhfjkdahfpaaDoorTkB
import Derived.Lib.BufferWrite
import Derived.StillTailTactics
namespace Go.Proofs.YtlckhfjkdahfpaaDoor
open Go.RowKit Go.Maps
open Go.ChangeMaps Go.MapKept Go.WideShapes
open Go.WideElems (Fit rd rg pl rd_val elemAt)

theorem findIdx_last {es : Array MapEntry} {clock : Nat} {x : MapEntry} (h : ∀ y ∈ es.toList, y.born < clock) (hx : x.born = clock) : (es.push x).findIdx? (fun e => (e.born : Int) == (clock : Int)) = some es.size := by
  have h1 : es.findIdx? (fun e => (e.born : Int) == (clock : Int)) = none := by
    rw [Array.findIdx?_eq_none_iff]
    intro y hy
    have := h y (by simpa using hy)
    rw [beq_eq_false_iff_ne]
    omega
  rw [Array.findIdx?_push, h1]
  simp [hx]
theorem modify_last (es : Array MapEntry) (x : MapEntry) (f : MapEntry → MapEntry) : (es.push x).modify es.size f = es.push (f x) := by
  apply Array.ext
  · simp
  · intro i h1 h2
    rw [Array.getElem_modify]
    by_cases hi : i = es.size
    · subst hi; simp
    · have : i < es.size := by simp at h2; omega
      rw [if_neg (by omega), Array.getElem_push_lt this, Array.getElem_push_lt this]
/-- a name that isn't there: its entry is made, then its value is laid -/
theorem map_entry {w : World} {mb n : Nat} {D : DataW Nat} (h : w.ownsMap Tryd.prog 9 (plainElem Tryd.prog 3) mb n D) {s : List UInt8} (hs : s.length ≤ maxLen) (hno : Maps.has D (.string s) = false) :
    ∃ es clock, w.heap[mb]? = some (.map es clock) ∧
      (∀ w1, w1.heap[mb]? = some (.map es clock) → (Instr.mapEntry 66 (.map (some mb)) (.string ⟨s.toArray⟩)).run Tryd.prog w1 = .ok (.tuple #[.int .i64 0, .int .i64 clock]) (setBlock w1 mb (.map (es.push ⟨.string ⟨s.toArray⟩, .int .i64 0, clock⟩) (clock + 1)))) ∧
      (∀ v, (Instr.mapUpdate 66 (.map (some mb)) (.string ⟨s.toArray⟩) v).run Tryd.prog w = .ok () (setBlock w mb (.map (es.push ⟨.string ⟨s.toArray⟩, v, clock⟩) (clock + 1)))) ∧
      (∀ w2 v, w2.heap[mb]? = some (.map (es.push ⟨.string ⟨s.toArray⟩, .int .i64 0, clock⟩) (clock + 1)) → (Instr.entryStore 66 (.map (some mb)) (.int .i64 clock) v).run Tryd.prog w2 = .ok () (setBlock w2 mb (.map (es.push ⟨.string ⟨s.toArray⟩, v, clock⟩) (clock + 1)))) := by
  have hkey := keyS_of s hs
  have hlook := h.look_ok keyS Tryd.underlying66 (zeroI1 w) (zd := .lit (.int .i64 0)) (zp := []) (plainElem_int Tryd.underlying3 (by decide)) hkey
  obtain ⟨es, clock, hb, F, -, rfl⟩ := h
  rcases keyS.find w hkey es.toList F.keys with ⟨h1, h2⟩ | ⟨j, e0, h1, h2, h3⟩
  · refine ⟨es, clock, hb, fun w1 hb1 => ?_, fun v => ?_, fun w2 v hb2 => ?_⟩
    · rcases keyS.find w1 hkey es.toList F.keys with ⟨k1, -⟩ | ⟨j, e0, -, k2, k3⟩
      · simp [Instr.mapEntry, run_underlying Tryd.underlying66, MapKept.run_getObj_map hb1, keyS.check w1 false hkey, k1, zeroI1, MapKept.run_setObj_map _ hb1, Result.andThen, setBlock, goInt]
      · exact absurd k3 (h2 e0 (List.mem_of_getElem? k2))
    · simp [Instr.mapUpdate, run_underlying Tryd.underlying66, MapKept.run_getObj_map hb, keyS.check w false hkey, h1, MapKept.run_setObj_map _ hb, Result.andThen, setBlock]
    · have hi := findIdx_last (x := ⟨.string ⟨s.toArray⟩, .int .i64 0, clock⟩) F.stamped.1 rfl
      have ha : (asInt (.int .i64 (clock : Int))).run Tryd.prog w2 = .ok (clock : Int) w2 := rfl
      simp [Instr.entryStore, MapKept.run_getObj_map hb2, ha, hi, MapKept.run_setObj_map _ hb2, Result.andThen, setBlock, modify_last]
  · exfalso
    obtain ⟨v, ps, hrun, -⟩ := hlook
    rw [hno] at hrun
    have hj : es[j]? = some e0 := by simpa using h2
    simp [Instr.lookup, run_underlying Tryd.underlying66, MapKept.run_getObj_map hb, keyS.check w _ hkey, h1, Result.andThen] at hrun
theorem MapT.of_block {w w' : World} {mb : Nat} {N : Nms} (h : MapT w mb N) (hb : w'.heap[mb]? = w.heap[mb]?) : MapT w' mb N := by
  obtain ⟨D, ⟨es, clock, h1, F, hs, hD⟩, h2⟩ := h
  exact ⟨D, ⟨es, clock, hb.trans h1, F, hs, hD⟩, h2⟩
/-- a new name's number, laid by an entry and its value -/
theorem MapT.entryK {w : World} {mb : Nat} {N N' : Nms} (h : MapT w mb N) {s : List UInt8} {k : Nat} (hk : k ≤ 1000) (hs : s.length ≤ 40) (hf : findN N s = none) (hl : lenN N ≤ 1000) (hlen : lenN N' = lenN N + 1) (hfind : ∀ x, findN N' x = if x = s then some k else findN N x) : ∃ o0 o1 o2 clock, w.heap[mb]? = some o0 ∧
    (∀ w1, w1.heap[mb]? = some o0 → (Instr.mapEntry 66 (.map (some mb)) (.string ⟨s.toArray⟩)).run Tryd.prog w1 = .ok (.tuple #[.int .i64 0, .int .i64 (clock : Nat)]) (w1.putObj mb o1)) ∧
    (∀ w2, w2.heap[mb]? = some o1 → (Instr.entryStore 66 (.map (some mb)) (.int .i64 (clock : Nat)) (.int .i64 k)).run Tryd.prog w2 = .ok () (w2.putObj mb o2)) ∧
    (∀ w3, w3.heap[mb]? = some o2 → MapT w3 mb N') := by
  obtain ⟨w', hrun, hfr, hm⟩ := h.putK hk hs hf hl hlen hfind
  obtain ⟨D, ho, hD⟩ := h
  obtain ⟨es, clock, hb, e1, e2, e3⟩ := map_entry ho (s := s) (by unfold maxLen; omega) (by rw [hD.has, hf]; rfl)
  refine ⟨.map es clock, _, .map (es.push ⟨.string ⟨s.toArray⟩, .int .i64 k, clock⟩) (clock + 1), clock, hb, e1, fun w2 hb2 => e3 w2 _ hb2, fun w3 hb3 => ?_⟩
  rw [e2] at hrun
  have e : setBlock w mb (.map (es.push ⟨.string ⟨s.toArray⟩, .int .i64 k, clock⟩) (clock + 1)) = w' := by
    injection hrun
  rw [← e] at hm
  exact hm.of_block (by rw [hb3, heap_setBlock_same hb])
theorem MapT.entry {w : World} {mb : Nat} {N : Nms} (h : MapT w mb N) (hN : NOk N) {s : List UInt8} (hg : goodB s = true) (hf : findN N s = none) (hl : lenN N < 200) : ∃ o0 o1 o2 clock, w.heap[mb]? = some o0 ∧
    (∀ w1, w1.heap[mb]? = some o0 → (Instr.mapEntry 66 (.map (some mb)) (.string ⟨s.toArray⟩)).run Tryd.prog w1 = .ok (.tuple #[.int .i64 0, .int .i64 (clock : Nat)]) (w1.putObj mb o1)) ∧
    (∀ w2, w2.heap[mb]? = some o1 → (Instr.entryStore 66 (.map (some mb)) (.int .i64 (clock : Nat)) (.int .i64 (lowN N))).run Tryd.prog w2 = .ok () (w2.putObj mb o2)) ∧
    (∀ w3, w3.heap[mb]? = some o2 → MapT w3 mb (setN N (lowN N) s)) :=
  h.entryK (by have := lowN_le N; have := hN.len; omega) (goodB_ne hg).2 hf (by omega) (lenN_set (goodB_ne hg).1) (findN_set hN hg hf hl)
end Go.Proofs.YtlckhfjkdahfpaaDoor

/- Tokens: Intern. -/
namespace Go.Proofs.YtlckhfjkdahfpaaDoor
open Go.RowKit Go.Maps
attribute [local go_sem ↓] Go.wp_at_zero Go.wp_at_succ
attribute [local go_sem] Oper.semAt_some
/-- a name's record -/
def recN (l : List UInt8) : List UInt8 := UInt8.ofNat l.length :: (l ++ List.replicate (40 - l.length) 0)
theorem recN_length {l : List UInt8} (h : l.length ≤ 40) : (recN l).length = 41 := by unfold recN; simp; omega
theorem I8_toT (x : UInt8) : I8 x = (x.toNat : Int) := by
  have h := I8_of_nat x.toNat x.toNat_lt
  rwa [UInt8.ofNat_toNat] at h
theorem row_rec {l : List UInt8} {n : Nat} (hn : n = l.length) (h : n ≤ 40) : (((zs 41).map B8).toArray.setIfInBounds 0 (.int .u8 (I8 (UInt8.ofNat n)))).toList.take 1 ++ Lib.byteCells l ++ (((zs 41).map B8).toArray.setIfInBounds 0 (.int .u8 (I8 (UInt8.ofNat n)))).toList.drop (1 + n) = (recN l).map B8 := by
  have hb : Lib.byteCells l = l.map B8 := by
    unfold Lib.byteCells
    apply List.map_congr_left
    intro x _
    show Value.int .u8 (x.toNat : Int) = Value.int .u8 (I8 x)
    rw [I8_toT]
  have hz : (((zs 41).map B8).toArray.setIfInBounds 0 (.int .u8 (I8 (UInt8.ofNat n)))).toList = .int .u8 (I8 (UInt8.ofNat n)) :: (List.replicate 40 0).map B8 := by
    rw [Array.toList_setIfInBounds]
    rfl
  rw [hz, hb, show 1 + n = n + 1 by omega, List.drop_succ_cons, ← List.map_drop, List.drop_replicate]
  unfold recN
  rw [← hn]
  simp [B8]
theorem row_rec' {S : ByteArray} {l : List UInt8} {n : Nat} (hS : S = ⟨l.toArray⟩) (hn : n = l.length) (h : n ≤ 40) : ((((zs 41).map B8).toArray.setIfInBounds 0 (.int .u8 (I8 (UInt8.ofNat n)))).toList.take 1 ++ Lib.byteCells S.data.toList ++ (((zs 41).map B8).toArray.setIfInBounds 0 (.int .u8 (I8 (UInt8.ofNat n)))).toList.drop (1 + n)) = (recN l).map B8 := by
  subst hS
  exact row_rec hn h
theorem heap_setRowT (w : World) (g : Nat) (cs : Array Value) {cur : Array Value} {t : TypeId} {fr : Nat × Nat} (h : w.heap[g]? = some (.cells cur t fr)) : (w.setRow g cs).heap[g]? = some (.cells cs t fr) := by
  exact setRow_heap w g cur cs t fr h
/-- the names with room for number k -/
def roomN (N : Nms) : Nms := if lowN N = N.length then N ++ [[]] else N
theorem roomN_lt (N : Nms) : lowN N < (roomN N).length := by
  have := lowN_le N
  unfold roomN
  split
  · simp; omega
  · omega
theorem roomN_set (N : Nms) (l : List UInt8) : (roomN N).set (lowN N) l = setN N (lowN N) l := rfl
set_option maxRecDepth 100000 in
set_option maxHeartbeats 6400000 in
theorem Intern_T (B : Nat) (bs : List Nat) (w : World) (t kd vr : Nat) (N : Nms) (l : List UInt8) (h : TB B bs w t kd vr N) (hl : l.length ≤ 140737488351300) :
    Calls Tryd.prog 11 #[.pointer (some ⟨t, 0, none⟩), .string ⟨l.toArray⟩] w fun e w' => e = .returned (.tuple #[.int .i64 (internI N l : Nat), .int .i64 (internE N l)]) ∧ ∃ bs', TB B bs' w' t kd vr (internS N l) ∧ Stp bs w bs' w' := by
  have HTB := Lib.hid h
  obtain ⟨p, mb, v, fb, s, hh, hk, hv, hbs⟩ := h
  obtain ⟨x0, x1, x2⟩ := trioT hh.obj
  obtain ⟨a, c, rfl⟩ := own_slR hh.nms
  have HG := Lib.hid (GoodName_F l hl w)
  have hlk := hh.map.look l (by unfold maxLen; omega)
  have HL := Lib.hid (Len_T B bs w t kd vr N HTB.out)
  have HH := Lib.hid hh
  obtain ⟨S, hS⟩ : ∃ S, S = ByteArray.mk l.toArray := ⟨_, rfl⟩
  rw [← hS] at HG hlk ⊢
  have HSS := Lib.hid hS
  have HKV := Lib.hid (show s.kd = kd ∧ s.vr = vr ∧ bs = tbB t mb (.slice a N.length c) fb from ⟨hk, hv, hbs⟩)
  clear hh hk hv hbs hS
  cases hg : goodB l with
  | false =>
    rw [hg] at HG
    have HI : Hid (internI N l = 0 ∧ internE N l = 60 ∧ internS N l = N) := Lib.hid ⟨by unfold internI; rw [if_pos hg], by unfold internE; rw [if_pos hg], by unfold internS; rw [if_pos hg]⟩
    clear hg
    go_enter Tryd.func11, Tryd.ntmps11
    go_wp2_with fail
    refine HG.out.mono ?_
    rintro e w' ⟨rfl, rfl⟩
    go_wp2_with fail
    go_ret2
    exact ⟨by rw [HI.out.1, HI.out.2.1]; rfl, bs, by rw [HI.out.2.2]; exact HTB.out, Stp.refl _ _⟩
  | true =>
    rw [hg] at HG
    cases hf : findN N l with
    | some i =>
      have HI : Hid (internI N l = i ∧ internE N l = 0 ∧ internS N l = N) := Lib.hid ⟨by unfold internI; rw [if_neg (by rw [hg]; decide), hf], by unfold internE; rw [if_neg (by rw [hg]; decide), hf]; rfl, by unfold internS; rw [if_neg (by rw [hg]; decide), hf]⟩
      rw [hf] at hlk
      simp only [Option.getD_some, Option.isSome_some] at hlk
      clear hg hf
      go_enter Tryd.func11, Tryd.ntmps11
      go_wp2_with fail
      refine HG.out.mono ?_
      rintro e w' ⟨rfl, rfl⟩
      go_wp2_with fail
      go_ret2
      exact ⟨by rw [HI.out.1, HI.out.2.1]; rfl, bs, by rw [HI.out.2.2]; exact HTB.out, Stp.refl _ _⟩
    | none =>
      rw [hf] at hlk
      simp only [Option.getD_none, Option.isSome_none] at hlk
      have HGL := Lib.hid hg
      have HFN := Lib.hid hf
      obtain ⟨ln, hln⟩ : ∃ ln, ln = lenN N := ⟨_, rfl⟩
      rw [← hln] at HL
      by_cases h200 : 200 ≤ ln
      · have h2i : (200 : Int) ≤ (ln : Int) := by omega
        have HI : Hid (internI N l = 0 ∧ internE N l = 66 ∧ internS N l = N) := Lib.hid ⟨by unfold internI; rw [if_neg (by rw [hg]; decide), hf]; exact if_pos (by omega), by unfold internE; rw [if_neg (by rw [hg]; decide), hf, if_neg (by decide), if_pos (by omega)], by unfold internS; rw [if_neg (by rw [hg]; decide), hf]; exact if_pos (by omega)⟩
        clear hg hf hln h200
        go_enter Tryd.func11, Tryd.ntmps11
        go_wp2_with fail
        refine HG.out.mono ?_
        rintro e w' ⟨rfl, rfl⟩
        go_wp2_with fail
        refine HL.out.mono ?_
        rintro e w' ⟨rfl, rfl⟩
        go_wp2_with fail
        go_ret2
        exact ⟨by rw [HI.out.1, HI.out.2.1]; rfl, bs, by rw [HI.out.2.2]; exact HTB.out, Stp.refl _ _⟩
      · have h2i : ¬ (200 : Int) ≤ (ln : Int) := by omega
        have HI : Hid (internI N l = lowN N ∧ internE N l = 0 ∧ internS N l = setN N (lowN N) l) := Lib.hid ⟨by unfold internI; rw [if_neg (by rw [hg]; decide), hf]; exact if_neg (by omega), by unfold internE; rw [if_neg (by rw [hg]; decide), hf, if_neg (by decide), if_neg (by omega)], by unfold internS; rw [if_neg (by rw [hg]; decide), hf]; exact if_neg (by omega)⟩
        have HLN : Hid (lenN N < 200) := Lib.hid (by omega)
        obtain ⟨k, hkk⟩ : ∃ k, k = lowN N := ⟨_, rfl⟩
        have hk200 : k ≤ 200 := by rw [hkk]; exact Nat.le_trans (lowN_le N) HH.out.ok.len
        have HA := Lib.hid (Alloc_F B fb w p s HH.out.file)
        have hlow : lowest s.R = k := by rw [HH.out.recs, lowN_low, hkk]
        rw [show alI s = k by unfold alI; rw [hlow, if_neg (by omega)], show alE s = 0 by unfold alE; rw [hlow, if_neg (by omega)]] at HA
        have HKK := Lib.hid hkk
        have HLOW := Lib.hid hlow
        clear hg hf hln h200 hkk hlow
        go_enter Tryd.func11, Tryd.ntmps11
        go_wp2_with fail
        refine HG.out.mono ?_
        rintro e w' ⟨rfl, rfl⟩
        go_wp2_with fail
        refine HL.out.mono ?_
        rintro e w' ⟨rfl, rfl⟩
        go_wp2_with fail
        refine HA.out.mono ?_
        rintro e w2 ⟨rfl, fb2, h2, s2⟩
        have hmk : (Instr.makeSlice 37 (.int .i64 41) (.int .i64 41)).run Tryd.prog w2 = .ok (.slice (some ⟨w2.heap.size, 0, none⟩) 41 41) (w2.alloc (.cells ((zs 41).map B8).toArray 5)) := make8 41 (by omega) w2
        have hgl := goodB_ne HGL.out
        have HL40 := Lib.hid hgl
        have hS := str_size l
        rw [← HSS.out] at hS
        obtain ⟨n, hn⟩ : ∃ n, n = l.length := ⟨_, rfl⟩
        rw [← hn] at hS
        have hn40 : n ≤ 40 := by rw [hn]; exact hgl.2
        have HNL := Lib.hid hn
        have HR2 := Lib.hid h2
        have HS2 := Lib.hid s2
        clear x0 x1 x2 hlk HA HG HL hgl hn h2 s2
        go_upto_region 12 with fail
        obtain ⟨g0, hg0⟩ : ∃ g0, g0 = w2.heap.size := ⟨_, rfl⟩
        obtain ⟨w3, hw3⟩ : ∃ w3, w3 = w2.alloc (.cells ((zs 41).map B8).toArray 5) := ⟨_, rfl⟩
        rw [← hw3, ← hg0]
        have hrow : w3.heap[g0]? = some (.cells ((zs 41).map B8).toArray 5) := by rw [hw3, hg0]; exact heap_alloc_new w2 _
        have HF3 := Lib.hid (show Fr [] w2 w3 by rw [hw3]; exact (Fr.refl _ _).alloc _)
        have HG0 := Lib.hid (show w2.heap.size ≤ g0 ∧ g0 < w3.heap.size by rw [hw3]; simp; omega)
        have y0 : w3.cell? ⟨g0, 0, none⟩ = some (.int .u8 (I8 0)) := cell_of_row _ _ 0 _ _ _ hrow
        have y0f : w3.frozen? ⟨g0, 0, none⟩ = false := frozen_of_row _ _ 0 _ _ hrow
        have e4 : IntKind.u8.wrap (n : Int) = I8 (UInt8.ofNat n) := by rw [wrap8_nat (by omega) (by omega)]; simp
        have HROW := Lib.hid hrow
        clear hw3 hg0 hrow hmk
        go_upto_region 13 with fail
        have hrow4 : (w3.setCell ⟨g0, 0, none⟩ (.int .u8 (I8 (UInt8.ofNat n)))).heap[g0]? = some (.cells (((zs 41).map B8).toArray.setIfInBounds 0 (.int .u8 (I8 (UInt8.ofNat n)))) 5) := heap_setCell_same w3 g0 0 _ _ _ HROW.out
        have HF4 := Lib.hid (HF3.out.next ((Fr.refl [g0] w3).setCell (p := ⟨g0, 0, none⟩) (by simp) (.int .u8 (I8 (UInt8.ofNat n)))) (fun i hi hlt => by simp at hi; have := HG0.out; omega))
        generalize w3.setCell ⟨g0, 0, none⟩ (.int .u8 (I8 (UInt8.ofNat n))) = w4 at hrow4 HF4 ⊢
        have hcp := Lib.run_copy_row_string (P := Tryd.prog) w4 37 9 3 5 g0 1 40 40 S _ _ Tryd.underlying37 (by kernel_rfl) hrow4 (by rw [hS]; exact hn40) (by rw [hS]; simp [zs]; omega)
        clear y0 y0f e4
        rw [hS, row_rec' HSS.out HNL.out hn40] at hcp
        go_upto_region 14 with fail
        have hrow5 := heap_setRowT w4 g0 ((recN l).map B8).toArray hrow4
        have HF5 := Lib.hid (HF4.out.next ((Fr.refl [g0] w4).setRow (g := g0) (by simp) ((recN l).map B8).toArray) (fun i hi hlt => by simp at hi; have := HG0.out; omega))
        generalize w4.setRow g0 ((recN l).map B8).toArray = w5 at hrow5 HF5 ⊢
        have hby : Bytes w5 (some ⟨g0, 0, none⟩) (recN l) := .inr ⟨g0, 0, rfl, fun j hj => by
          rw [Nat.zero_add, cell_of_row _ _ j _ _ _ hrow5]
          simp [List.getD, hj]⟩
        have h41 := recN_length HL40.out.2
        have hals : alS s = (s.toLow k).put k (zs 41) := by
          unfold alS
          rw [HLOW.out, if_neg (by omega), HH.out.sz]
        have hpe : putE (alS s) (k : Int) (recN l).length = 0 := putE_ok (by omega) (by rw [h41, hals]; exact HH.out.sz.symm)
        have hps : putS (alS s) (k : Int) (recN l) = (alS s).put k (recN l) := by unfold putS; rw [if_pos hpe]; rfl
        have hPUT := Put_F B fb2 w5 p (alS s) (k : Int) (some ⟨g0, 0, none⟩) 41 (recN l) (HR2.out.keep HF5.out) (by rw [h41]; decide) (fun h => by cases h) hby
        rw [hpe, hps, h41] at hPUT
        obtain ⟨s6, hs6⟩ : ∃ s6, s6 = (alS s).put k (recN l) := ⟨_, rfl⟩
        rw [← hs6] at hPUT
        have HS6 : Hid (s6.kd = s.kd ∧ s6.vr = s.vr ∧ s6.sz = 42 ∧ s6.R = recsT (setN N k l)) := Lib.hid (by
          rw [hs6, hals]
          refine ⟨rfl, rfl, HH.out.sz, ?_⟩
          show putR (putR s.R k (zs 41)) k (recN l) = _
          rw [putR_twice, HH.out.recs]
          exact recsT_put (by rw [HKK.out]; exact lowN_le N) HL40.out.1)
        have HPUT := Lib.hid hPUT
        have HST5 := Lib.hid (HS2.out.keepR HF5.out)
        have z0 := (HST5.out.1.obj HH.out.obj HH.out.d1)
        obtain ⟨x0, x1, x2⟩ := trioT z0
        clear hcp hrow4 HF4 hby h41 hals hpe hps hPUT hs6 hrow5 z0
        go_wp2_with fail
        refine HPUT.out.mono ?_
        rintro e w6 ⟨rfl, fb6, h6, s6'⟩
        have HR6 := Lib.hid h6
        have HST6 := Lib.hid (HST5.out.trans s6')
        have z0 := (HST6.out.1.obj HH.out.obj HH.out.d1)
        have HOB6 := Lib.hid z0
        have HNM6 := Lib.hid (own_fr HH.out.nms HST6.out.1 (fun g hg => (HH.out.d4 g hg).2.2))
        have HMP6 := Lib.hid (HH.out.map.fr HST6.out.1 HH.out.d2)
        have HLT := Lib.hid HH.out.lt
        have HD6 : Hid (t ∉ fb6 ∧ mb ∉ fb6 ∧ ∀ g, (Value.slice a N.length c).ownBlock = some g → g ∉ fb6) := Lib.hid (by
          refine ⟨fun hm => ?_, fun hm => ?_, fun g hg hm => ?_⟩
          · rcases HST6.out.2 _ hm with h | h
            · exact HH.out.d1 h
            · have := (HH.out.lt t (tbB_t ..)).2; omega
          · rcases HST6.out.2 _ hm with h | h
            · exact HH.out.d2 h
            · have := (HH.out.lt mb (tbB_m ..)).2; omega
          · rcases HST6.out.2 _ hm with h | h
            · exact (HH.out.d4 g hg).2.2 h
            · have := (HH.out.lt g (tbB_v hg)).2; omega)
        have HBS : Hid (Fr bs w w6) := Lib.hid (HST6.out.1.mono fun i hi _ => by rw [HKV.out.2.2]; exact tbB_f hi)
        have HBW := Lib.hid (show B ≤ w6.heap.size by have := (HH.out.lt t (tbB_t ..)); have := HST6.out.1.size; omega)
        clear x0 x1 x2 h6 s6' HPUT
        obtain ⟨x0, x1, x2⟩ := trioT z0
        obtain ⟨m, hm⟩ : ∃ m, m = N.length := ⟨_, rfl⟩
        rw [← hm] at x1
        have hm200 : m ≤ 200 := by rw [hm]; exact HH.out.ok.len
        have HMM := Lib.hid hm
        clear hm z0
        go_upto_if 62 with fail
        go_cut [] (fun wx => ∃ v', wx.heap[t]? = some (.cells #[.pointer (some ⟨p, 0, none⟩), v', .map (some mb)] 68) ∧ wx.ownsRow B 9 1 v' (roomN N).length ((roomN N).map Str) ∧ (∀ g, v'.ownBlock = some g → g ≠ t ∧ g ≠ mb ∧ g ∉ fb6 ∧ (g ∈ bs ∨ w.heap.size ≤ g)) ∧ RF B fb6 wx p s6 ∧ MapT wx mb N ∧ Fr bs w wx)
        case first =>
          by_cases hkm : k = m
          · have hki : ((k : Int) == (m : Int)) = true := by rw [hkm]; exact beq_self_eq_true _
            have HRN : Hid (roomN N = N ++ [[]]) := Lib.hid (by unfold roomN; rw [if_pos (by rw [← HKK.out, ← HMM.out]; exact hkm)])
            have hfx : Fr [] w6 (w6.alloc (.cells #[.string ⟨#[]⟩] 9)) := (Fr.refl [] _).alloc _
            have hnews : ∀ a, some (⟨w6.heap.size, 0, none⟩ : Addr) = some a → ∀ j u, [Value.string ⟨#[]⟩][j]? = some u → (w6.alloc (.cells #[.string ⟨#[]⟩] 9)).cell? (a.add j) = some u := by
              intro a ha j u hu
              cases ha
              have hz := heap_alloc_new w6 (.cells #[.string ⟨#[]⟩] 9)
              rw [addT, Nat.zero_add, cell_of_row _ _ j _ _ _ hz]
              simpa using hu
            have HNEWS := Lib.hid hnews
            have HOX : Hid ((w6.alloc (.cells #[.string ⟨#[]⟩] 9)).ownsRow B 9 1 (.slice a m c) m (N.map Str)) := Lib.hid (by rw [HMM.out]; exact own_fr HNM6.out hfx (by simp))
            have HFX := Lib.hid hfx
            have HBX := Lib.hid (Nat.le_trans HBW.out hfx.size)
            have HOBX := Lib.hid (hfx.obj HOB6.out (by simp))
            have HTV : Hid (∀ g, (Value.slice a m c).ownBlock = some g → g ≠ t ∧ g ≠ mb ∧ g ∉ fb6 ∧ g ∈ bs) := Lib.hid (fun g hg => by
              rw [HMM.out] at hg
              exact ⟨(HH.out.d4 g hg).1, (HH.out.d4 g hg).2.1, HD6.out.2.2 g hg, by rw [HKV.out.2.2]; exact tbB_v hg⟩)
            clear hnews hfx hkm
            go_wp2_with (at_builtin; refine wpList_appS _ rfl _ _ 23 rfl B 9 _ 1 16 Tryd.underlying23 infoS rfl (by decide) (.slice a m c) m (N.map Str) rfl HOX.out (some ⟨w6.heap.size, 0, none⟩) 1 1 [.string ⟨#[]⟩] rfl rfl HNEWS.out (fun h => by cases h) (by simp [Value.oneCell']) (by unfold maxLen; omega) (by omega) HBX.out ?_; intro v' w8 happ; obtain ⟨a6, c6, e6⟩ := own_slR happ.own; subst e6; have HAPP := Lib.hid happ; have hob := (app_frZ happ).obj HOBX.out (fun hm => (HTV.out t (by simpa using hm)).1 rfl); obtain ⟨z0, z1, z2⟩ := trioT hob; have z1f := frozen_of_row _ _ 1 _ _ hob; have HOB8 := Lib.hid hob; clear happ hob)
            go_meet
            obtain ⟨v', hvv⟩ : ∃ v', v' = Value.slice a6 (m + 1) c6 := ⟨_, rfl⟩
            rw [← hvv] at HAPP ⊢
            have hf8 := app_frZ HAPP.out
            have hft : Fr [t] w8 (w8.setCell ⟨t, 1, none⟩ v') := (Fr.refl [t] w8).setCell (by simp) _
            have hv' : ∀ g, v'.ownBlock = some g → g ≠ t ∧ g ≠ mb ∧ g ∉ fb6 ∧ (g ∈ bs ∨ w.heap.size ≤ g) := fun g hg => by
              rcases HAPP.out.blk with hb | ⟨g', hb, hg'⟩
              · rw [hb] at hg
                have h1 := HTV.out g hg
                exact ⟨h1.1, h1.2.1, h1.2.2.1, .inl h1.2.2.2⟩
              · rw [hb] at hg
                cases hg
                have h1 := HFX.out.size
                have h2 := HST6.out.1.size
                have h3 := (HLT.out t (tbB_t ..)).2
                have h4 := (HLT.out mb (tbB_m ..)).2
                exact ⟨by omega, by omega, fun hm => by have := (HR6.out.lt g hm).2; omega, .inr (by omega)⟩
            refine ⟨v', by rw [heap_setCell_same w8 t 1 _ _ _ HOB8.out]; rfl, ?_, hv', ?_, ?_, ?_⟩
            · rw [HRN.out, List.length_append, List.map_append, ← HMM.out]
              exact own_fr HAPP.out.own hft (fun g hg hm => by simp at hm; exact (hv' g hg).1 hm)
            · refine ((HR6.out.keep HFX.out).fr hf8 (fun i hi hm => (HTV.out i (by simpa using hm)).2.2.1 hi)).fr hft (fun i hi hm => by simp at hm; subst hm; exact HD6.out.1 hi)
            · refine ((HMP6.out.fr HFX.out (by simp)).fr hf8 (fun hm => (HTV.out mb (by simpa using hm)).2.1 rfl)).fr hft (by simp; exact fun e => HH.out.d3 e.symm)
            · refine (((HBS.out.trans (HFX.out.mono (by simp))).trans (hf8.mono fun i hi _ => (HTV.out i (by simpa using hi)).2.2.2))).trans (hft.mono fun i hi _ => by simp at hi; rw [hi, HKV.out.2.2]; exact tbB_t ..)
          · have hki : ((k : Int) == (m : Int)) = false := by rw [beq_eq_false_iff_ne]; omega
            have HRN : Hid (roomN N = N) := Lib.hid (by unfold roomN; rw [if_neg (by rw [← HKK.out, ← HMM.out]; exact hkm)])
            clear hkm
            go_wp2_with fail
            go_meet
            refine ⟨.slice a N.length c, HOB6.out, by rw [HRN.out]; exact HNM6.out, fun g hg => ⟨(HH.out.d4 g hg).1, (HH.out.d4 g hg).2.1, HD6.out.2.2 g hg, .inl (by rw [HKV.out.2.2]; exact tbB_v hg)⟩, HR6.out, HMP6.out, HBS.out⟩
        case rest =>
          obtain ⟨v', hob, hnm, hvb, hrf, hmp, hfr⟩ := hcut
          have hkr : k < (roomN N).length := by rw [HKK.out]; exact roomN_lt N
          have hr201 : (roomN N).length ≤ 201 := by
            unfold roomN
            split
            · rw [List.length_append, ← HMM.out]; simp; omega
            · rw [← HMM.out]; omega
          obtain ⟨r, hr⟩ : ∃ r, r = (roomN N).length := ⟨_, rfl⟩
          obtain ⟨g, c', rfl, -, -⟩ := own_strC hnm hkr
          rw [← hr] at hkr hnm hob
          obtain ⟨x0, x1, x2⟩ := trioT hob
          have hki : (k : Int) < (r : Int) := by omega
          have hk0 : (0 : Int) ≤ (k : Int) := by omega
          have HRR := Lib.hid hr
          have HOB := Lib.hid hob
          have HNM := Lib.hid hnm
          have HVB := Lib.hid hvb
          have HRF := Lib.hid hrf
          have HMP := Lib.hid hmp
          have HFR := Lib.hid hfr
          clear hob hnm hvb hrf hmp hfr hr
          go_upto_region 17 with fail
          have hfd : Fr [] wc wc.drew := (Fr.refl [] wc).drew
          have HFD := Lib.hid hfd
          obtain ⟨W, hW⟩ : ∃ W, W = wc.drew := ⟨_, rfl⟩
          rw [← hW] at HFD
          have hob := HFD.out.obj HOB.out (by simp)
          have hnm := own_fr HNM.out HFD.out (by simp)
          obtain ⟨g', c'', e', hcl, hcf⟩ := own_strC hnm (k := k) (by rw [← HRR.out]; exact hkr)
          simp only [Value.slice.injEq, Option.some.injEq, Addr.mk.injEq] at e'
          obtain ⟨⟨rfl, -⟩, -, -⟩ := e'
          have HS2 : Hid (∀ x, ∃ ss, Str x = Value.string ss) := Lib.hid fun x => ⟨_, rfl⟩
          obtain ⟨ss, hss⟩ := HS2.out ((roomN N).getD k [])
          rw [hss] at hcl
          have hvb := HVB.out g rfl
          obtain ⟨o0, o1, o2, ck, q0, q1, q2, q3⟩ := (HMP.out.fr HFD.out (by simp)).entry HH.out.ok HGL.out HFN.out HLN.out
          obtain ⟨W1, hW1⟩ : ∃ W1, W1 = (wc.setCell ⟨g, k, none⟩ (.string S)).drew := ⟨_, rfl⟩
          have hfs : Fr [g] W W1 := by rw [hW1, hW]; exact (Fr.refl [g] wc.drew).setCell (p := ⟨g, k, none⟩) (by simp) (.string S)
          have p0 := hfs.obj q0 (by simp; exact fun e => hvb.2.1 e.symm)
          have r1 := q1 W1 p0
          obtain ⟨W2, hW2⟩ : ∃ W2, W2 = W1.putObj mb o1 := ⟨_, rfl⟩
          have hfp : Fr [mb] W1 W2 := by rw [hW2]; exact (Fr.refl [mb] W1).putObj (by simp) _
          have p1 : W2.heap[mb]? = some o1 := by rw [hW2]; exact World.putObj_heap_same (Array.getElem?_eq_some_iff.1 p0).1
          have r2 := q2 W2 p1
          have hfq : Fr [mb] W2 (W2.putObj mb o2) := (Fr.refl [mb] W2).putObj (by simp) _
          have p2 : (W2.putObj mb o2).heap[mb]? = some o2 := World.putObj_heap_same (Array.getElem?_eq_some_iff.1 p1).1
          have HM3 := Lib.hid (q3 _ p2)
          have c0 := trioT hob
          have c1 := trioT (hfs.obj hob (by simp; exact fun e => hvb.1 e.symm))
          have c2 := trioT (hfp.obj (hfs.obj hob (by simp; exact fun e => hvb.1 e.symm)) (by simp; exact HH.out.d3))
          have c3 := trioT (hfq.obj (hfp.obj (hfs.obj hob (by simp; exact fun e => hvb.1 e.symm)) (by simp; exact HH.out.d3)) (by simp; exact HH.out.d3))
          have K0 := Lib.hid c0.2
          have K1 := Lib.hid c1.2
          have K2 := Lib.hid c2.2
          have K3 := Lib.hid c3.2
          rw [← HSS.out, ← hW2] at r1
          rw [← HKK.out] at r2
          have HFS := Lib.hid hfs
          have HFP := Lib.hid hfp
          have HFQ := Lib.hid hfq
          have HHN := Lib.hid hnm
          have HHO := Lib.hid hob
          clear hfd hnm hob q0 q1 q2 q3 p0 p1 p2 hfs hfp hfq hss x0 x1 x2 c0 c1 c2 c3
          subst hW2 hW1 hW
          go_region_held3 (fun w' => w'.cell? ⟨t, 1, none⟩ = some (.slice (some ⟨g, 0, none⟩) r c') ∧ w'.cell? ⟨t, 2, none⟩ = some (.map (some mb))) (first | exact K0.out | exact K1.out | exact K2.out | exact K3.out) (fail)
          go_wp2_with fail
          go_ret2
          have hvb := HVB.out g rfl
          have hF1 := (HFR.out.trans (HFD.out.mono (by simp)))
          have hF2 := hF1.next HFS.out (fun i hi hlt => by
            simp at hi
            subst hi
            rcases hvb.2.2.2 with h | h
            · exact h
            · omega)
          have htb : t ∈ bs := by rw [HKV.out.2.2]; exact tbB_t ..
          have hmb : mb ∈ bs := by rw [HKV.out.2.2]; exact tbB_m ..
          have hF3 := hF2.trans (HFP.out.mono (fun i hi _ => by simp at hi; rw [hi]; exact hmb))
          have hF4 := hF3.trans (HFQ.out.mono (fun i hi _ => by simp at hi; rw [hi]; exact hmb))
          have hrl : r = (setN N (lowN N) l).length := by rw [HRR.out, ← roomN_set, List.length_set]
          refine ⟨by rw [HI.out.1, HI.out.2.1, ← HKK.out]; rfl, tbB t mb (.slice (some ⟨g, 0, none⟩) r c') fb6, ?_, hF4, fun i hi => ?_⟩
          · rw [HI.out.2.2]
            refine ⟨p, mb, .slice (some ⟨g, 0, none⟩) r c', fb6, s6, ⟨?_, ?_, ?_, HM3.out, HH.out.ok.set HGL.out HFN.out HLN.out, HS6.out.2.2.1, HS6.out.2.2.2.trans (by rw [HKK.out]), HH.out.bt, HH.out.bm, HD6.out.1, HD6.out.2.1, HH.out.d3, fun g' hg' => ?_⟩, HS6.out.1.trans HKV.out.1, HS6.out.2.1.trans HKV.out.2.1, rfl⟩
            · exact HFQ.out.obj (HFP.out.obj (HFS.out.obj HHO.out (by simp; exact fun e => hvb.1 e.symm)) (by simp; exact HH.out.d3)) (by simp; exact HH.out.d3)
            · exact (((HRF.out.keep HFD.out).fr HFS.out (fun i hi hm => by simp at hm; subst hm; exact hvb.2.2.1 hi)).fr HFP.out (fun i hi hm => by simp at hm; subst hm; exact HD6.out.2.1 hi)).fr HFQ.out (fun i hi hm => by simp at hm; subst hm; exact HD6.out.2.1 hi)
            · have h1 := own_set2 HHN.out k (.string S)
              have e1 : ((roomN N).map Str).set k (.string S) = (setN N (lowN N) l).map Str := by
                rw [HSS.out, HKK.out, ← roomN_set, List.map_set]
                rfl
              rw [e1] at h1
              rw [← hrl]
              exact own_fr (own_fr (show World.ownsRow (wc.setCell ⟨g, k, none⟩ (.string S)).drew _ _ _ _ _ _ from h1) HFP.out (fun g' hg' hm => by
                have : g = g' := by simpa [Value.ownBlock] using hg'
                simp at hm; rw [← this] at hm; exact hvb.2.1 hm)) HFQ.out (fun g' hg' hm => by
                have : g = g' := by simpa [Value.ownBlock] using hg'
                simp at hm; rw [← this] at hm; exact hvb.2.1 hm)
            · have : g = g' := by simpa [Value.ownBlock] using hg'
              subst this
              exact ⟨hvb.1, hvb.2.1, hvb.2.2.1⟩
          · rcases tbB_cases hi with rfl | rfl | h | h
            · exact .inl htb
            · exact .inl hmb
            · have : g = i := by simpa [Value.ownBlock] using h
              subst this
              exact hvb.2.2.2
            · rcases HST6.out.2 i h with h | h
              · left; rw [HKV.out.2.2]; exact tbB_f h
              · exact .inr h
end Go.Proofs.YtlckhfjkdahfpaaDoor
