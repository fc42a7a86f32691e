/- The walks of the document's Labels and GetNode of version 2. -/
import Derived.Test.YtmekplamjlnhcaaRecX
import Derived.Test.YtmekplamjlnhcaaRecL
namespace Go.Proofs.Ytmekplamjlnhcaa
open Go.RowKit
attribute [local go_sem ↓] Go.wp_at_zero Go.wp_at_succ
theorem I8_ne0' (x : UInt8) : (I8 x != 0) = !(x == 0) := by
  have h : (0 : Int) = I8 0 := by decide +kernel
  rw [h]; unfold bne; rw [I8_eq]
theorem gap_all {cs : List UInt8} (h : gapAt cs = false) : ∀ c ∈ cs, (c != 0) = true := by
  intro c hc
  unfold gapAt at h
  have := List.any_eq_false.1 h c hc
  unfold bne
  simpa using this
theorem labs_stop {cs : List UInt8} {x : UInt8} (r : List UInt8) (hg : gapAt cs = false) (hx : (x == 0) = true) : labsOf (cs ++ x :: r) = labsOf cs := by
  unfold labsOf
  have e : x = 0 := by simpa using hx
  subst e
  rw [List.takeWhile_append_of_pos (gap_all hg), (tw_all hg).1]
  simp
theorem labs_all {cs : List UInt8} (h : ∀ c ∈ cs, (c != 0) = true) : (cs.map fun c : UInt8 => (c.toNat : Int) - 1).map labByte = cs := by
  rw [List.map_map]
  conv => rhs; rw [← List.map_id cs]
  apply List.map_congr_left
  intro c hc
  have h0 := h c hc
  have h1 : c.toNat ≠ 0 := by
    intro e
    have : c = 0 := UInt8.toNat_inj.1 (by rw [e]; rfl)
    subst this
    simp at h0
  show labByte ((c.toNat : Int) - 1) = c
  unfold labByte
  rw [show ((c.toNat : Int) - 1 + 1).toNat = c.toNat by omega]
  exact UInt8.toNat_inj.1 (by rw [UInt8.toNat_ofNat', Nat.mod_eq_of_lt (by have := c.toNat_lt; omega)])
theorem tw_pos (cs : List UInt8) : ∀ c ∈ cs.takeWhile (· != 0), (c != 0) = true := by
  intro c hc
  have := List.all_takeWhile (l := cs) (p := (· != 0))
  exact List.all_eq_true.1 this c hc
theorem labB_labsOf {cs : List UInt8} (h8 : cs.length = 8) (hg : gapOk cs = true) : labB (labsOf cs) = cs := by
  unfold labB labsOf
  rw [labs_all (tw_pos cs), List.length_map]
  have e : cs.takeWhile (· != 0) ++ cs.dropWhile (· != 0) = cs := List.takeWhile_append_dropWhile
  have hl : (cs.takeWhile (· != 0)).length + (cs.dropWhile (· != 0)).length = 8 := by rw [← List.length_append, e, h8]
  have hz : cs.dropWhile (· != 0) = List.replicate (8 - (cs.takeWhile (· != 0)).length) 0 := by
    rw [List.eq_replicate_iff]
    refine ⟨by omega, fun c hc => ?_⟩
    unfold gapOk at hg
    have := List.all_eq_true.1 hg c hc
    simpa using this
  rw [← hz, e]
theorem nm1_byte {l : List UInt8} (h : 0 < l.length) : nm l 0 1 = (l.getD 0 0).toNat := by
  cases l with
  | nil => simp at h
  | cons x r =>
    rw [nm_def]
    show be [x] = _
    simp [be]
theorem nB_nDec {l : List UInt8} (h : l.length = 65) (hk : nOk l = true) : nB (nDec l) = l := by
  unfold nOk at hk
  simp only [Bool.and_eq_true, decide_eq_true_eq] at hk
  obtain ⟨h1, h2, h3⟩ := hk
  have hd : (if ((nm l 0 1 : Int) == 1) = true then 1 else 0 : Nat) = nm l 0 1 := by
    by_cases e : nm l 0 1 = 1
    · rw [e]; rfl
    · have e0 : nm l 0 1 = 0 := by omega
      rw [e0]; rfl
  unfold nB nDec ptrs
  simp only [List.flatMap_cons, List.flatMap_nil, List.append_nil, ptr_back]
  rw [labB_labsOf (nLabs_length l h) h2, hd, by8_nm l 0 1 (by omega), by8_nm l 1 4 (by omega), by8_nm l 5 4 (by omega)]
  unfold nLabs
  rw [List.drop_zero, ← List.append_assoc, take_join, take_join, take_join, take_join]
  exact List.take_of_length_le (by omega)
set_option maxRecDepth 100000 in
set_option maxHeartbeats 1600000 in
theorem Labels_any (a : Option Addr) (c : Nat) (l : List UInt8) (w : World) (hl : l.length ≤ 100) (hb : Bytes w a l) :
    Calls Try.prog 54 #[.slice a l.length c] w fun e w' => ∃ v, e = .returned v ∧ w'.ownsRow w.heap.size 3 1 v (labsOf l).length ((labsOf l).map (Value.int .i64)) ∧ Fr [] w w' := by
  have HB := Lib.hid hb
  clear hb
  go_enter Try.func54, Try.ntmps54
  go_wp2_with fail
  go_loopw [3, 4] (fun u i wr => ∃ k : Nat, k ≤ l.length ∧ i = .int .i64 k ∧ gapAt (l.take k) = false ∧ wr.ownsRow w.heap.size 3 1 u (labsOf (l.take k)).length ((labsOf (l.take k)).map (Value.int .i64)) ∧ Fr [] w wr) (fun _ i _ => l.length - (intOf i).toNat)
  case atStart => exact ⟨0, by omega, rfl, by simp [gapAt], by simpa [labsOf] using own_empty w 3, (Fr.refl _ _).alloc _⟩
  case round =>
    obtain ⟨k, hk, rfl, hgp, hown, hf⟩ := hrel
    have HG := Lib.hid hgp
    have HW := Lib.hid hown
    have HF := Lib.hid hf
    have HLL := Lib.hid (labsOf_length (l.take k))
    clear hgp hown hf
    by_cases hlt : k < l.length
    · obtain ⟨b, off, rfl, hc⟩ := HB.out.at (by omega)
      have hcell : wr.cell? ⟨b, off + k, none⟩ = some (.int .u8 (I8 (l.getD k 0))) := HF.out.cell (hc k hlt) (by simp)
      clear hc
      obtain ⟨x, hx⟩ : ∃ x, x = l.getD k 0 := ⟨_, rfl⟩
      rw [← hx] at hcell
      have hxk : x = l[k] := by rw [hx]; simp [List.getD, hlt]
      have HTK := Lib.hid (show l.take (k + 1) = l.take k ++ [x] by rw [take_snoc l k hlt, hxk])
      have HDR := Lib.hid (show l = l.take k ++ x :: l.drop (k + 1) by rw [hxk, List.getElem_cons_drop, List.take_append_drop])
      have HX := Lib.hid (show I8 x = (x.toNat : Int) by unfold I8; rfl)
      have hx0 := I8_lo x
      have hx1 := I8_hi x
      clear hx hxk
      cases hz : (x == 0)
      · have hne : (I8 x != 0) = true := by rw [I8_ne0', hz]; rfl
        have HZ := Lib.hid hz
        have hw1 : IntKind.i64.wrap (I8 x) = I8 x := IntWalk.i64_in _ (by omega)
        have hw2 : IntKind.i64.wrap (I8 x - 1) = I8 x - 1 := IntWalk.i64_in _ (by omega)
        have HLT := Lib.hid hlt
        have hT : (l.take k).length ≤ 100 := by rw [List.length_take]; omega
        have HT := Lib.hid hT
        clear hz hT
        go_wp2_with (at_builtin; refine wpList_appS _ rfl _ _ 52 rfl w.heap.size 3 (.int .i64 0) 1 8 Try.underlying52 infoI rfl (by decide) u3 _ _ rfl (World.ownsRow.alloc HW.out _) (some ⟨wr.heap.size, 0, none⟩) 1 1 [.int .i64 (I8 x - 1)] rfl rfl (news_one rfl) (fun h => by cases h) (by simp [Value.oneCell']) (by have := HLL.out; have := HT.out; unfold maxLen; omega) (by have := HLL.out; have := HT.out; omega) (by have := HF.out.size; simp; omega) ?_; intro v' w5 happ; have HA := Lib.hid happ; clear happ)
        go_roundw
        case rel =>
          refine ⟨k + 1, HLT.out, by go_num, ?_, ?_, ?_⟩
          · rw [HTK.out, gapAt_snoc, HG.out, HZ.out]; rfl
          · rw [HTK.out, labs_in HG.out HZ.out, ← HX.out]; simpa using HA.out.own
          · exact (HF.out.alloc _).next HA.out.fr (by intro i hi hlt2; have := (own_lt HW.out (by simpa using hi)).1; omega)
        case measure => have := HLT.out; simp [intOf] <;> omega
      · have hne : (I8 x != 0) = false := by rw [I8_ne0', hz]; rfl
        have HE := Lib.hid (show labsOf l = labsOf (l.take k) by
          conv => lhs; rw [HDR.out]
          exact labs_stop _ HG.out hz)
        clear hz
        go_wp2
        go_ret
        refine ⟨_, rfl, ?_, HF.out⟩
        rw [HE.out]; exact HW.out
    · have HE := Lib.hid (show l.take k = l from List.take_of_length_le (by omega))
      go_wp2
      go_ret
      refine ⟨_, rfl, ?_, HF.out⟩
      have := HW.out
      rw [HE.out] at this
      exact this

def NZat (w : World) (g : Nat) : Prop := w.heap[g]? = some (.cells #[.bool false, .int .i64 0, .int .i64 0, .slice none 0 0, .slice none 0 0] 54)
theorem NZat.there {w : World} {g : Nat} (h : NZat w g) : w.there g 0 5 := by
  intro j hj
  unfold NZat at h
  refine ⟨?_, frozen_of_row w g _ _ _ h⟩
  rw [cell_of_row w g _ _ _ _ h]
  simp only [Nat.zero_add]
  rw [Array.getElem?_eq_getElem (by simpa using hj)]
  rfl
theorem NZat.alloc (w : World) : NZat (w.alloc (.cells #[.bool false, .int .i64 0, .int .i64 0, .slice none 0 0, .slice none 0 0] 54)) w.heap.size := heap_alloc_new w _
def isNode : Value → Bool
  | .agg ⟨[.bool _, .int .i64 _, .int .i64 _, .slice _ _ _, .slice _ _ _]⟩ => true
  | _ => false
theorem isNode_a (b : Bool) (z1 z2 : Int) (a : Option Addr) (n c : Nat) (a' : Option Addr) (n' c' : Nat) : isNode (.agg #[.bool b, .int .i64 z1, .int .i64 z2, .slice a n c, .slice a' n' c']) = true := rfl
theorem node_eq {v : Value} (h : isNode v = true) : v = .agg (vcs v).toArray ∧ (vcs v).toArray.size = 5 ∧ (vcs v).toArray.all (·.oneCell') = true := by
  unfold isNode at h
  split at h
  · exact ⟨rfl, rfl, by simp [vcs, Value.oneCell']⟩
  · cases h
theorem wp_storeN' {d : Option Tmp} {x y : Operand} {ty : TypeId} {ps : String} {af : Array Edge} {a : Act} {w : World} {K : Act → World → Prop} {Q : Exit → Act → World → Prop} (b : Nat) (cs : List Value)
    (hz : w.there b 0 cs.toArray.size) (hi : (Try.prog.info? 54).map (·.size) = some cs.toArray.size) (h1 : cs.toArray.all (·.oneCell') = true) (hx : a.eval x = .pointer (some ⟨b, 0, none⟩)) (hy : a.eval y = .agg cs.toArray) :
    Oper.wp Try.prog { dst := d, op := .store 54 x y, type := ty, pos := ps, after := af, guard := none } a w K Q = K (a.put d undef) (w.setCells b 0 cs) := by
  unfold Oper.wp execOp
  simp only [hx, hy, Instr.storeAt, Instr.sureAddr, Sem.run_bind, Sem.run_pure, Result.andThen_ok, run_storeVar_mid w b 0 54 cs.toArray hz hi h1]
  rfl
/-- a whole node goes into a variable, in a region that draws its order -/
theorem wp_storeN {d : Option Tmp} {x y : Operand} {ty : TypeId} {ps : String} {af : Array Edge} {a : Act} {w : World} {K : Act → World → Prop} {Q : Exit → Act → World → Prop}
    (hz : NZat w (adr (a.eval x))) (hx : isAt0 (a.eval x) = true) (hy : isNode (a.eval y) = true) :
    Oper.wp Try.prog { dst := d, op := .store 54 x y, type := ty, pos := ps, after := af, guard := none } a w K Q = K (a.put d undef) (w.setCells (adr (a.eval x)) 0 (vcs (a.eval y))) := by
  obtain ⟨e2, hs, h1⟩ := node_eq hy
  exact wp_storeN' _ _ (by rw [hs]; exact hz.there) (by rw [hs]; exact infoN) h1 (at0_eq hx) e2
attribute [local go_sem ↓] wp_storeN
attribute [local go_sem] adr_p vcs_a isAt0_p isNode_a NZat.alloc
theorem nodeA (wA : World) (cs : List Value) (hl : cs.length = 5) : ((wA.alloc (.cells #[.bool false, .int .i64 0, .int .i64 0, .slice none 0 0, .slice none 0 0] 54)).setCells wA.heap.size 0 cs).heap[wA.heap.size]? = some (.cells cs.toArray 54) ∧ Fr [] wA ((wA.alloc (.cells #[.bool false, .int .i64 0, .int .i64 0, .slice none 0 0, .slice none 0 0] 54)).setCells wA.heap.size 0 cs) :=
  ⟨obj_setCells (heap_alloc_new wA _) cs (by rw [hl]; rfl), Fr.setCells (by simp) cs 0 _ ((Fr.refl _ _).alloc _)⟩
theorem nodeB {wA : World} {g : Nat} (hz : NZat wA g) (cs : List Value) (hl : cs.length = 5) : (wA.setCells g 0 cs).heap[g]? = some (.cells cs.toArray 54) ∧ Fr [g] wA (wA.setCells g 0 cs) :=
  ⟨obj_setCells hz cs (by rw [hl]; rfl), Fr.setCells (by simp) cs 0 _ (Fr.refl _ _)⟩
theorem cell_fr {S : List Nat} {w w' : World} {p : Addr} {v : Value} (h : w.cell? p = some v) (hf : Fr S w w') (hn : p.block ∉ S) : w'.cell? p = some v := hf.cell h hn
theorem cell_set {w : World} {p : Addr} {v : Value} {b' : Nat} {cs : List Value} (h : w.cell? p = some v) (hb : p.block ≠ b') : (w.setCells b' 0 cs).cell? p = some v :=
  (Fr.setCells (S := [b']) (by simp) cs 0 w (Fr.refl _ _)).cell h (by simpa using hb)
theorem nV_dec {l : List UInt8} (h : l.length = 65) (hk : nOk l = true) {x : UInt8} {D : Bool} {S : List UInt8} {LL : List Int} (hx : x = l.getD 0 0) (hD : D = (I8 x != 0)) (hS : S = (l.drop 17).take 48) (hLL : LL = labsOf (nLabs l)) : (⟨D, (nm l 1 4 : Int) - 1, (nm l 5 4 : Int) - 1, LL, S⟩ : NodeV) = nDec l := by
  unfold nOk at hk
  simp only [Bool.and_eq_true, decide_eq_true_eq] at hk
  have h1 := hk.1
  have hn := nm1_byte (l := l) (by omega)
  rw [← hx] at hn
  subst hS hLL
  have e : D = ((nm l 0 1 : Int) == 1) := by
    rw [hD, I8_ne0', hn]
    rw [hn] at h1
    by_cases h0 : x = 0
    · subst h0; rfl
    · have h2 : x.toNat ≠ 0 := fun e => h0 (UInt8.toNat_inj.1 (by rw [e]; rfl))
      have h3 : x.toNat = 1 := by omega
      rw [h3]
      simpa using h0
  rw [e]
  rfl
theorem nOk_fine2 {l : List UInt8} (h : nOk l = true) : nFine (nDec l) = true := by unfold nOk at h; simp only [Bool.and_eq_true] at h; exact h.2.2
theorem ints_own_ {w : World} {B e : Nat} {a : Option Addr} {n cap : Nat} {l : List Int} (h : w.ownsRow B e 1 (.slice a n cap) l.length (l.map (Value.int .i64))) : Ints w a l := by
  obtain ⟨a', cap', e, hb, _⟩ := ints_of_own h
  simp only [Value.slice.injEq] at e
  obtain ⟨rfl, _, rfl⟩ := e
  exact hb
theorem own_setCellsI {B e b n : Nat} {v : Value} {xs : List Value} (hb : ∀ g, v.ownBlock = some g → g ≠ b) {w : World} (vs : List Value) (o : Nat) (h : w.ownsRow B e 1 v n xs) : (w.setCells b o vs).ownsRow B e 1 v n xs :=
  own_fr h (Fr.setCells (S := [b]) (by simp) vs o w (Fr.refl _ _)) (by intro g hg; simp; exact hb g hg)
theorem GotNode.yes2 {B : Nat} {l : List UInt8} {w' : World} {D : Bool} {z1 z2 : Int} {LL : List Int} {S : List UInt8} {la lb : Option Addr} {lc ld : Nat} (hk : nOk l = true) (hd : (⟨D, z1, z2, LL, S⟩ : NodeV) = nDec l)
    (h1 : w'.ownsRow B 3 1 (.slice la LL.length lc) LL.length (LL.map (Value.int .i64))) (h2 : w'.ownsRow B 5 1 (.slice lb S.length ld) S.length (S.map B8))
    (h3 : ∀ g, (Value.slice la LL.length lc).ownBlock = some g → (Value.slice lb S.length ld).ownBlock ≠ some g) :
    GotNode B l (.tuple #[.agg #[.bool D, .int .i64 z1, .int .i64 z2, .slice la LL.length lc, .slice lb S.length ld], .int .i64 0]) w' := by
  unfold GotNode
  rw [if_pos hk, ← hd]
  exact ⟨_, _, rfl, h1, h2, h3⟩
theorem refGetNode_size (a : Option Addr) (c : Nat) (l : List UInt8) (w : World) (h : l.length ≠ 65) :
    Calls Try.prog 29 #[.slice a l.length c] w fun e w' => e = .returned (.tuple #[nZero, .int .i64 4]) ∧ Fr [] w w' := by
  have hb : ((l.length : Int) != 65) = true := by rw [bne_iff_ne]; omega
  have H := Lib.hid h; clear h
  go_enter Try.func29, Try.ntmps29
  go_wp2
  exact bodyPost_ret (v := .tuple #[nZero, .int .i64 4]) (by simp [results, Try.results29, go_sem, nZero]) rfl ⟨rfl, ((Fr.refl _ _).alloc _).alloc _⟩
set_option maxRecDepth 100000 in
set_option maxHeartbeats 8000000 in
theorem refGetNode_any (a : Option Addr) (c : Nat) (l : List UInt8) (w : World) (h : l.length = 65) (hc : l.length ≤ c) (hb : Bytes w a l) :
    Calls Try.prog 29 #[.slice a l.length c] w fun e w' => ∃ x, e = .returned x ∧ GotNode w.heap.size l x w' ∧ Fr [] w w' := by
  have HL := Lib.hid h
  have hle : l.length ≤ 100 := by omega
  have hc17 : (17 : Int) ≤ (c : Int) := by omega
  have hc65 : (65 : Int) ≤ (c : Int) := by omega
  have HB := Lib.hid hb
  obtain ⟨ab, ao, rfl, hcs⟩ := hb.at (by omega)
  have hcell := hcs 0 (by omega)
  rw [Nat.add_zero] at hcell
  have hab := World.block_lt_of_cell? w _ hcell
  obtain ⟨x, hx⟩ : ∃ x, x = l.getD 0 0 := ⟨_, rfl⟩
  rw [← hx] at hcell
  have HX := Lib.hid hx
  obtain ⟨D, hD⟩ : ∃ D, D = (I8 x != 0) := ⟨_, rfl⟩
  have HD := Lib.hid hD
  have hcell2 : w.cell? ⟨ab, ao, none⟩ = some (.int .u8 (I8 x)) := hcell
  have HCELL := Lib.hid hcell2
  have hDx := hD.symm
  clear hcs hcell hcell2 hx hD
  have n1 := nm_le l 1 4 (by omega)
  have n2 : IntKind.i64.wrap ((nm l 1 4 : Int) - 1) = (nm l 1 4 : Int) - 1 := IntWalk.i64_in _ (by omega)
  have n3 := nm_le l 5 4 (by omega)
  have n4 : IntKind.i64.wrap ((nm l 5 4 : Int) - 1) = (nm l 5 4 : Int) - 1 := IntWalk.i64_in _ (by omega)
  have hne : ¬ c = 17 := by omega
  have hne9 : ¬ c = 9 := by omega
  rw [h]
  clear hb h
  go_enter Try.func29, Try.ntmps29
  go_wp2_with fail
  obtain ⟨wb, hwb⟩ : ∃ wb, wb = (w.alloc (.cells #[.bool false, .int .i64 0, .int .i64 0, .slice none 0 0, .slice none 0 0] 54)).alloc (.cells #[.bool false, .int .i64 0, .int .i64 0, .slice none 0 0, .slice none 0 0] 54) := ⟨_, rfl⟩
  rw [← hwb]
  have hfb : Fr [] w wb := by rw [hwb]; exact ((Fr.refl _ _).alloc _).alloc _
  have HZ1 := Lib.hid (show wb.heap[w.heap.size]? = some (.cells #[.bool false, .int .i64 0, .int .i64 0, .slice none 0 0, .slice none 0 0] 54) by rw [hwb]; exact heap_alloc2_old w _ _)
  have HZ2 := Lib.hid (show wb.heap[w.heap.size + 1]? = some (.cells #[.bool false, .int .i64 0, .int .i64 0, .slice none 0 0, .slice none 0 0] 54) by rw [hwb]; exact heap_alloc2_new w _ _)
  clear hwb
  have hcb : wb.drew.cell? ⟨ab, ao, none⟩ = some (.int .u8 (I8 x)) := hfb.cell HCELL.out (by simp)
  have hcz : (wb.alloc (.cells #[.bool false, .int .i64 0, .int .i64 0, .slice none 0 0, .slice none 0 0] 54)).drew.cell? ⟨ab, ao, none⟩ = some (.int .u8 (I8 x)) := (hfb.alloc _).cell HCELL.out (by simp)
  have hzz : (wb.alloc (.cells #[.bool false, .int .i64 0, .int .i64 0, .slice none 0 0, .slice none 0 0] 54)).drew.heap[wb.heap.size]? = some (.cells #[.bool false, .int .i64 0, .int .i64 0, .slice none 0 0, .slice none 0 0] 54) := heap_alloc_new wb _
  have HOZ := Lib.hid hzz
  clear hzz
  have hab2 : ab < wb.heap.size := Nat.lt_of_lt_of_le hab hfb.size
  have HFB := Lib.hid hfb
  have HFZ := Lib.hid (show Fr [] w (wb.alloc (.cells #[.bool false, .int .i64 0, .int .i64 0, .slice none 0 0, .slice none 0 0] 54)).drew from (HFB.out.alloc _).drew)
  clear hfb
  have HAT1 := Lib.hid (show ∀ w, Bytes w (some ⟨ab, ao, none⟩) l → Calls Try.prog 46 #[.slice (some ⟨ab, ao, none⟩) 65 c, .int .i64 1, .int .i64 4] w fun e w' => e = .returned (.int .i64 (nm l 1 4)) ∧ w = w' from by intro w hb; have h := at15_any (some ⟨ab, ao, none⟩) c l 4 1 w (by omega) hc hb (by unfold Wd; omega) (by omega) (by have := HL.out; omega); rw [HL.out] at h; exact h)
  have HAT5 := Lib.hid (show ∀ w, Bytes w (some ⟨ab, ao, none⟩) l → Calls Try.prog 46 #[.slice (some ⟨ab, ao, none⟩) 65 c, .int .i64 5, .int .i64 4] w fun e w' => e = .returned (.int .i64 (nm l 5 4)) ∧ w = w' from by intro w hb; have h := at15_any (some ⟨ab, ao, none⟩) c l 4 5 w (by omega) hc hb (by unfold Wd; omega) (by omega) (by have := HL.out; omega); rw [HL.out] at h; exact h)
  obtain ⟨S, hS⟩ : ∃ S, S = (l.drop 17).take 48 := ⟨_, rfl⟩
  obtain ⟨LL, hLL⟩ : ∃ LL, LL = labsOf (nLabs l) := ⟨_, rfl⟩
  have hcp : ∀ w, Bytes w (some ⟨ab, ao, none⟩) l → Calls Try.prog 47 #[.slice (some ⟨ab, ao + 17, none⟩) 48 (c - 17)] w fun e w' => ∃ g cap, e = .returned (.slice (some ⟨g, 0, none⟩) S.length cap) ∧ w.heap.size ≤ g ∧ w'.ownsRow w.heap.size 5 1 (.slice (some ⟨g, 0, none⟩) S.length cap) S.length (S.map B8) ∧ Fr [] w w' := by
    intro w hw
    have hl0 := HL.out
    have hSl : S.length = 48 := by rw [hS]; simp only [List.length_take, List.length_drop]; omega
    have h := copy_any (some ⟨ab, ao + 17, none⟩) (c - 17) S w (by omega) (by rw [hS]; exact hw.sub 17 48 (by omega))
    rw [hSl] at h
    refine h.mono ?_
    rintro e w' ⟨v, rfl, g, cap, rfl, h1, _, h3, h4⟩
    exact ⟨g, cap, rfl, h1, h3, h4⟩
  have hlb : ∀ w, Bytes w (some ⟨ab, ao, none⟩) l → Calls Try.prog 54 #[.slice (some ⟨ab, ao + 9, none⟩) 8 (c - 9)] w fun e w' => ∃ la lc, e = .returned (.slice la LL.length lc) ∧ w'.ownsRow w.heap.size 3 1 (.slice la LL.length lc) LL.length (LL.map (Value.int .i64)) ∧ Fr [] w w' := by
    intro w hw
    have hl0 := HL.out
    have hSl : (nLabs l).length = 8 := nLabs_length l hl0
    have h := Labels_any (some ⟨ab, ao + 9, none⟩) (c - 9) (nLabs l) w (by omega) (hw.sub 9 8 (by omega))
    rw [hSl, ← hLL] at h
    refine h.mono ?_
    rintro e w' ⟨v, rfl, h1, h2⟩
    obtain ⟨la, lc, rfl, _⟩ := ints_of_own h1
    exact ⟨la, lc, rfl, h1, h2⟩
  have HSS := Lib.hid hS
  have HLLL := Lib.hid hLL
  have HSL := Lib.hid (show S.length = 48 by rw [hS]; have := HL.out; simp only [List.length_take, List.length_drop]; omega)
  clear hS hLL
  have HCP := Lib.hid hcp
  have HLB := Lib.hid hlb
  clear hcp hlb
  go_region_held3? (fun w' => w'.cell? ⟨ab, ao, none⟩ = some (.int .u8 (I8 x)))
    (first
      | with_reducible refine cell_set ?_ ?_ <;> first | assumption | (show ab ≠ _; omega) | (show ab ≠ _; have h1 := hB.size; have h2 := hA.size; simp at h1 h2; omega)
      | with_reducible assumption
      | with_reducible exact hcb
      | with_reducible exact hcz
      | (with_reducible refine cell_fr ?_ ((Fr.refl [] _).alloc _) (by simp) ; assumption)
      | (with_reducible refine cell_fr ?_ hB (by simp) ; assumption)
      | (with_reducible refine cell_fr ?_ hA (by simp) ; assumption))
    (first
      | (go_at_call 46; (with_reducible refine (HAT1.out _ (by first | exact HB.out.keep HFB.out.drew | exact HB.out.keep HFZ.out)).mono ?_); rintro e wA' ⟨rfl, rfl⟩)
      | (go_at_call 46; (with_reducible refine (HAT5.out _ (by first | exact HB.out.keep HFB.out.drew | exact HB.out.keep HFZ.out)).mono ?_); rintro e wA' ⟨rfl, rfl⟩)
      | (go_at_call 54; (with_reducible refine (HLB.out _ (HB.out.keep HFB.out.drew)).mono ?_); rintro e wA ⟨laA, lcA, rfl, hlA, hA⟩; have hKA := HFB.out.drew.trans hA)
      | (go_at_call 54; (with_reducible refine (HLB.out _ (HB.out.keep HFZ.out)).mono ?_); rintro e wA ⟨laA, lcA, rfl, hlA, hA⟩; have hzA : NZat wA wb.heap.size := hA.obj HOZ.out (by simp); have hKA := HFZ.out.trans hA)
      | (go_at_call 47; (with_reducible refine (HCP.out _ (HB.out.keep hKA)).mono ?_); rintro e wB ⟨gA, cA, rfl, hgA, hoA, hB⟩; have hzB : ∀ g, NZat wA g → NZat wB g := fun g h => hB.obj h (by simp))
      | (go_at_call 47; (with_reducible refine (HCP.out _ (HB.out.keep (hKA.alloc _))).mono ?_); rintro e wB ⟨gA, cA, rfl, hgA, hoA, hB⟩; have hzB : NZat wB wA.heap.size := hB.obj (NZat.alloc _) (by simp)))
  · have hz1s := (Array.getElem?_eq_some_iff.1 HZ2.out).1
    have hRel := nodeA wB [.bool D, .int .i64 (nm l 1 4 - 1), .int .i64 (nm l 5 4 - 1), .slice laA LL.length lcA, .slice (some ⟨gA, 0, none⟩) S.length cA] rfl
    obtain ⟨hX, fX⟩ := hRel
    generalize hwX : (wB.alloc (.cells #[.bool false, .int .i64 0, .int .i64 0, .slice none 0 0, .slice none 0 0] 54)).setCells wB.heap.size 0 [.bool D, .int .i64 (nm l 1 4 - 1), .int .i64 (nm l 5 4 - 1), .slice laA LL.length lcA, .slice (some ⟨gA, 0, none⟩) S.length cA] = wX at hX fX ⊢
    have fbX : Fr [] wb wX := (Fr.refl [] wb).drew.trans (hA.trans (hB.trans fX))
    have HFX := Lib.hid (HFB.out.trans fbX)
    have hA1 := hA.size
    have hB1 := hB.size
    simp at hA1 hB1 hgA
    have HLX := Lib.hid (own_base (own_fr hlA (hB.trans fX) (by simp)) (show w.heap.size ≤ _ from HFB.out.size))
    have HOX := Lib.hid (own_base (own_fr hoA fX (by simp)) (show w.heap.size ≤ _ by omega))
    have HDS := Lib.hid (show ∀ g, (Value.slice laA LL.length lcA).ownBlock = some g → (Value.slice (some ⟨gA, 0, none⟩) S.length cA).ownBlock ≠ some g from by intro g hg hm; have h1 := (own_lt hlA hg).2; simp [Value.ownBlock] at hm; omega)
    have HZ1X := Lib.hid (fbX.obj HZ1.out (by simp))
    have HZ2X := Lib.hid (fbX.obj HZ2.out (by simp))
    have HXX := Lib.hid hX
    have HGN := Lib.hid (show gA ≠ w.heap.size by omega)
    have HLN := Lib.hid (show ∀ g, (Value.slice laA LL.length lcA).ownBlock = some g → g ≠ w.heap.size from by intro g hg; have h1 := (own_lt hlA hg).1; simp at h1; omega)
    have x0 := cell_of_row wX _ 0 _ _ _ hX
    have x1 := cell_of_row wX _ 1 _ _ _ hX
    have x2 := cell_of_row wX _ 2 _ _ _ hX
    have x3 := cell_of_row wX _ 3 _ _ _ hX
    have x4 := cell_of_row wX _ 4 _ _ _ hX
    clear hX fX hwX hoA hlA hA hB fbX hcb hcz hgA hA1 hB1 hz1s hzB hKA
    go_wp2_with fail
    have hIX := ints_own_ HLX.out
    cases hfin : nFine ⟨D, (nm l 1 4 : Int) - 1, (nm l 5 4 : Int) - 1, LL, S⟩
    · have HNO := Lib.hid (show nOk l = false by cases hk : nOk l; rfl; have e := nV_dec HL.out hk HX.out HD.out HSS.out HLLL.out; have := nOk_fine2 hk; rw [← e, hfin] at this; cases this)
      refine (refPutNode_no D (nm l 1 4 - 1) (nm l 5 4 - 1) laA lcA LL (some ⟨gA, 0, none⟩) cA S wX (by have := labsOf_length (nLabs l); have h8 := nLabs_length l HL.out; rw [HLLL.out]; omega) hIX hfin).mono ?_
      clear hfin hIX
      rintro e w5 ⟨v, rfl, hv⟩
      have HV := Lib.hid hv.fr
      clear hv x0 x1 x2 x3 x4
      have o1 := HV.out.obj HZ1X.out (by simp)
      have o2 := HV.out.obj HZ2X.out (by simp)
      have hz1 : NZat w5 w.heap.size := o1
      have O1 := Lib.hid o1
      have y0 := cell_of_row w5 _ 0 _ _ _ o2
      have y1 := cell_of_row w5 _ 1 _ _ _ o2
      have y2 := cell_of_row w5 _ 2 _ _ _ o2
      have y3 := cell_of_row w5 _ 3 _ _ _ o2
      have y4 := cell_of_row w5 _ 4 _ _ _ o2
      clear o1 o2
      go_wp2
      refine bodyPost_ret (v := .tuple #[nZero, .int .i64 41]) ?_ rfl ⟨_, rfl, GotNode.no HNO.out rfl, Fr.setCells (by simp) [.bool false, .int .i64 0, .int .i64 0, .slice none 0 0, .slice none 0 0] 0 _ (HFX.out.trans HV.out)⟩
      exact results_row Try.results29 _ _ w.heap.size 54 _ _ _ rfl rfl (obj_setCells O1.out [.bool false, .int .i64 0, .int .i64 0, .slice none 0 0, .slice none 0 0] rfl) Try.underlying54 rfl infoN
    · have hy := refPutNode_yes D (nm l 1 4 - 1) (nm l 5 4 - 1) laA lcA LL (some ⟨gA, 0, none⟩) cA S wX hIX (own_bytes HOX.out) hfin
      have HFIN := Lib.hid hfin
      obtain ⟨m, hm⟩ : ∃ m, m = nB ⟨D, (nm l 1 4 : Int) - 1, (nm l 5 4 : Int) - 1, LL, S⟩ := ⟨_, rfl⟩
      rw [← hm] at hy
      have HM := Lib.hid hm
      have HY := Lib.hid hy
      clear hfin hy hm hIX
      refine HY.out.mono ?_
      rintro e w5 ⟨v, rfl, hv⟩
      obtain ⟨g, cap, rfl, hg, hlt, hbv, hfv⟩ := hv.bytes
      have HV := Lib.hid hfv
      have q1 := conv_any (some ⟨g, 0, none⟩) cap m w5 (fun h => by cases h) hbv
      have q2 := conv_any (some ⟨ab, ao, none⟩) c l w5 (fun h => by cases h) (HB.out.keep (HFX.out.trans HV.out))
      rw [HL.out] at q2
      clear hv hbv hfv hg hlt x0 x1 x2 x3 x4
      have o1 := HV.out.obj HZ1X.out (by simp)
      have hz1 : NZat w5 w.heap.size := o1
      have O1 := Lib.hid o1
      by_cases hq : m = l
      · have HQ := Lib.hid (HM.out.symm.trans hq)
        have o2 := HV.out.obj HXX.out (by simp)
        have y0 := cell_of_row w5 _ 0 _ _ _ o2
        have y1 := cell_of_row w5 _ 1 _ _ _ o2
        have y2 := cell_of_row w5 _ 2 _ _ _ o2
        have y3 := cell_of_row w5 _ 3 _ _ _ o2
        have y4 := cell_of_row w5 _ 4 _ _ _ o2
        have HOKK := Lib.hid (show nOk l = true by have := nOk_nB _ HFIN.out; rwa [HQ.out] at this)
        have HDEC := Lib.hid (nV_dec HL.out HOKK.out HX.out HD.out HSS.out HLLL.out)
        rw [hq] at q1 ⊢
        clear o1 o2
        go_wp2
        refine bodyPost_ret (v := .tuple #[.agg [.bool D, .int .i64 (nm l 1 4 - 1), .int .i64 (nm l 5 4 - 1), .slice laA LL.length lcA, .slice (some ⟨gA, 0, none⟩) S.length cA].toArray, .int .i64 0]) ?_ rfl ⟨_, rfl, ?_, Fr.setCells (by simp) [.bool D, .int .i64 (nm l 1 4 - 1), .int .i64 (nm l 5 4 - 1), .slice laA LL.length lcA, .slice (some ⟨gA, 0, none⟩) S.length cA] 0 _ (HFX.out.trans HV.out)⟩
        · exact results_row Try.results29 _ _ w.heap.size 54 _ _ _ rfl rfl (obj_setCells O1.out [.bool D, .int .i64 (nm l 1 4 - 1), .int .i64 (nm l 5 4 - 1), .slice laA LL.length lcA, .slice (some ⟨gA, 0, none⟩) S.length cA] rfl) Try.underlying54 rfl infoN
        · exact GotNode.yes2 HOKK.out HDEC.out (own_setCellsI (b := w.heap.size) HLN.out [.bool D, .int .i64 (nm l 1 4 - 1), .int .i64 (nm l 5 4 - 1), .slice laA LL.length lcA, .slice (some ⟨gA, 0, none⟩) S.length cA] 0 (own_fr HLX.out HV.out (by simp))) (own_setCells (b := w.heap.size) (by intro g hg; have := HGN.out; simp [Value.ownBlock] at hg; omega) [.bool D, .int .i64 (nm l 1 4 - 1), .int .i64 (nm l 5 4 - 1), .slice laA LL.length lcA, .slice (some ⟨gA, 0, none⟩) S.length cA] 0 (own_fr HOX.out HV.out (by simp))) HDS.out
      · have HNO := Lib.hid (show nOk l = false by cases hk : nOk l; rfl; have e := nV_dec HL.out hk HX.out HD.out HSS.out HLLL.out; exact absurd (by rw [HM.out, e]; exact nB_nDec HL.out hk) hq)
        have o2 := HV.out.obj HZ2X.out (by simp)
        have y0 := cell_of_row w5 _ 0 _ _ _ o2
        have y1 := cell_of_row w5 _ 1 _ _ _ o2
        have y2 := cell_of_row w5 _ 2 _ _ _ o2
        have y3 := cell_of_row w5 _ 3 _ _ _ o2
        have y4 := cell_of_row w5 _ 4 _ _ _ o2
        have hne : (m == l) = false := by simpa using hq
        clear o1 o2
        go_wp2
        refine bodyPost_ret (v := .tuple #[nZero, .int .i64 41]) ?_ rfl ⟨_, rfl, GotNode.no HNO.out rfl, Fr.setCells (by simp) [.bool false, .int .i64 0, .int .i64 0, .slice none 0 0, .slice none 0 0] 0 _ (HFX.out.trans HV.out)⟩
        exact results_row Try.results29 _ _ w.heap.size 54 _ _ _ rfl rfl (obj_setCells O1.out [.bool false, .int .i64 0, .int .i64 0, .slice none 0 0, .slice none 0 0] rfl) Try.underlying54 rfl infoN
  · have hz1s := (Array.getElem?_eq_some_iff.1 HZ2.out).1
    have hRel := nodeB (hzB) [.bool D, .int .i64 (nm l 1 4 - 1), .int .i64 (nm l 5 4 - 1), .slice laA LL.length lcA, .slice (some ⟨gA, 0, none⟩) S.length cA] rfl
    obtain ⟨hX, fX⟩ := hRel
    generalize hwX : wB.setCells wA.heap.size 0 [.bool D, .int .i64 (nm l 1 4 - 1), .int .i64 (nm l 5 4 - 1), .slice laA LL.length lcA, .slice (some ⟨gA, 0, none⟩) S.length cA] = wX at hX fX ⊢
    have hA1 := hA.size
    have hB1 := hB.size
    simp at hA1 hB1 hgA
    have fAX : Fr [wA.heap.size] wA wX := ((Fr.refl [wA.heap.size] wA).alloc _).trans ((hB.mono (by simp)).trans fX)
    have fbX : Fr [] wb wX := ((Fr.refl [] wb).drew.trans hA).next fAX (by intro i hi hlt; simp at hi; omega)
    have HFX := Lib.hid (HFB.out.trans fbX)
    have HLX := Lib.hid (own_base (own_fr hlA fAX (by intro g hg hm; have h1 := (own_lt hlA hg).2; simp at hm; omega)) (show w.heap.size ≤ _ from HFB.out.size))
    have HOX := Lib.hid (own_base (own_fr hoA fX (by intro g hg hm; simp [Value.ownBlock] at hg hm; omega)) (show w.heap.size ≤ _ by simp; omega))
    have HDS := Lib.hid (show ∀ g, (Value.slice laA LL.length lcA).ownBlock = some g → (Value.slice (some ⟨gA, 0, none⟩) S.length cA).ownBlock ≠ some g from by intro g hg hm; have h1 := (own_lt hlA hg).2; simp [Value.ownBlock] at hm; omega)
    have HZ1X := Lib.hid (fbX.obj HZ1.out (by simp))
    have HZ2X := Lib.hid (fbX.obj HZ2.out (by simp))
    have HXX := Lib.hid hX
    have HGN := Lib.hid (show gA ≠ w.heap.size by omega)
    have HLN := Lib.hid (show ∀ g, (Value.slice laA LL.length lcA).ownBlock = some g → g ≠ w.heap.size from by intro g hg; have h1 := (own_lt hlA hg).1; simp at h1; omega)
    have x0 := cell_of_row wX _ 0 _ _ _ hX
    have x1 := cell_of_row wX _ 1 _ _ _ hX
    have x2 := cell_of_row wX _ 2 _ _ _ hX
    have x3 := cell_of_row wX _ 3 _ _ _ hX
    have x4 := cell_of_row wX _ 4 _ _ _ hX
    clear hX fX hwX hoA hlA hA hB fbX hcb hcz hgA hA1 hB1 hz1s hzB hKA fAX
    go_wp2_with fail
    have hIX := ints_own_ HLX.out
    cases hfin : nFine ⟨D, (nm l 1 4 : Int) - 1, (nm l 5 4 : Int) - 1, LL, S⟩
    · have HNO := Lib.hid (show nOk l = false by cases hk : nOk l; rfl; have e := nV_dec HL.out hk HX.out HD.out HSS.out HLLL.out; have := nOk_fine2 hk; rw [← e, hfin] at this; cases this)
      refine (refPutNode_no D (nm l 1 4 - 1) (nm l 5 4 - 1) laA lcA LL (some ⟨gA, 0, none⟩) cA S wX (by have := labsOf_length (nLabs l); have h8 := nLabs_length l HL.out; rw [HLLL.out]; omega) hIX hfin).mono ?_
      clear hfin hIX
      rintro e w5 ⟨v, rfl, hv⟩
      have HV := Lib.hid hv.fr
      clear hv x0 x1 x2 x3 x4
      have o1 := HV.out.obj HZ1X.out (by simp)
      have o2 := HV.out.obj HZ2X.out (by simp)
      have hz1 : NZat w5 w.heap.size := o1
      have O1 := Lib.hid o1
      have y0 := cell_of_row w5 _ 0 _ _ _ o2
      have y1 := cell_of_row w5 _ 1 _ _ _ o2
      have y2 := cell_of_row w5 _ 2 _ _ _ o2
      have y3 := cell_of_row w5 _ 3 _ _ _ o2
      have y4 := cell_of_row w5 _ 4 _ _ _ o2
      clear o1 o2
      go_wp2
      refine bodyPost_ret (v := .tuple #[nZero, .int .i64 41]) ?_ rfl ⟨_, rfl, GotNode.no HNO.out rfl, Fr.setCells (by simp) [.bool false, .int .i64 0, .int .i64 0, .slice none 0 0, .slice none 0 0] 0 _ (HFX.out.trans HV.out)⟩
      exact results_row Try.results29 _ _ w.heap.size 54 _ _ _ rfl rfl (obj_setCells O1.out [.bool false, .int .i64 0, .int .i64 0, .slice none 0 0, .slice none 0 0] rfl) Try.underlying54 rfl infoN
    · have hy := refPutNode_yes D (nm l 1 4 - 1) (nm l 5 4 - 1) laA lcA LL (some ⟨gA, 0, none⟩) cA S wX hIX (own_bytes HOX.out) hfin
      have HFIN := Lib.hid hfin
      obtain ⟨m, hm⟩ : ∃ m, m = nB ⟨D, (nm l 1 4 : Int) - 1, (nm l 5 4 : Int) - 1, LL, S⟩ := ⟨_, rfl⟩
      rw [← hm] at hy
      have HM := Lib.hid hm
      have HY := Lib.hid hy
      clear hfin hy hm hIX
      refine HY.out.mono ?_
      rintro e w5 ⟨v, rfl, hv⟩
      obtain ⟨g, cap, rfl, hg, hlt, hbv, hfv⟩ := hv.bytes
      have HV := Lib.hid hfv
      have q1 := conv_any (some ⟨g, 0, none⟩) cap m w5 (fun h => by cases h) hbv
      have q2 := conv_any (some ⟨ab, ao, none⟩) c l w5 (fun h => by cases h) (HB.out.keep (HFX.out.trans HV.out))
      rw [HL.out] at q2
      clear hv hbv hfv hg hlt x0 x1 x2 x3 x4
      have o1 := HV.out.obj HZ1X.out (by simp)
      have hz1 : NZat w5 w.heap.size := o1
      have O1 := Lib.hid o1
      by_cases hq : m = l
      · have HQ := Lib.hid (HM.out.symm.trans hq)
        have o2 := HV.out.obj HXX.out (by simp)
        have y0 := cell_of_row w5 _ 0 _ _ _ o2
        have y1 := cell_of_row w5 _ 1 _ _ _ o2
        have y2 := cell_of_row w5 _ 2 _ _ _ o2
        have y3 := cell_of_row w5 _ 3 _ _ _ o2
        have y4 := cell_of_row w5 _ 4 _ _ _ o2
        have HOKK := Lib.hid (show nOk l = true by have := nOk_nB _ HFIN.out; rwa [HQ.out] at this)
        have HDEC := Lib.hid (nV_dec HL.out HOKK.out HX.out HD.out HSS.out HLLL.out)
        rw [hq] at q1 ⊢
        clear o1 o2
        go_wp2
        refine bodyPost_ret (v := .tuple #[.agg [.bool D, .int .i64 (nm l 1 4 - 1), .int .i64 (nm l 5 4 - 1), .slice laA LL.length lcA, .slice (some ⟨gA, 0, none⟩) S.length cA].toArray, .int .i64 0]) ?_ rfl ⟨_, rfl, ?_, Fr.setCells (by simp) [.bool D, .int .i64 (nm l 1 4 - 1), .int .i64 (nm l 5 4 - 1), .slice laA LL.length lcA, .slice (some ⟨gA, 0, none⟩) S.length cA] 0 _ (HFX.out.trans HV.out)⟩
        · exact results_row Try.results29 _ _ w.heap.size 54 _ _ _ rfl rfl (obj_setCells O1.out [.bool D, .int .i64 (nm l 1 4 - 1), .int .i64 (nm l 5 4 - 1), .slice laA LL.length lcA, .slice (some ⟨gA, 0, none⟩) S.length cA] rfl) Try.underlying54 rfl infoN
        · exact GotNode.yes2 HOKK.out HDEC.out (own_setCellsI (b := w.heap.size) HLN.out [.bool D, .int .i64 (nm l 1 4 - 1), .int .i64 (nm l 5 4 - 1), .slice laA LL.length lcA, .slice (some ⟨gA, 0, none⟩) S.length cA] 0 (own_fr HLX.out HV.out (by simp))) (own_setCells (b := w.heap.size) (by intro g hg; have := HGN.out; simp [Value.ownBlock] at hg; omega) [.bool D, .int .i64 (nm l 1 4 - 1), .int .i64 (nm l 5 4 - 1), .slice laA LL.length lcA, .slice (some ⟨gA, 0, none⟩) S.length cA] 0 (own_fr HOX.out HV.out (by simp))) HDS.out
      · have HNO := Lib.hid (show nOk l = false by cases hk : nOk l; rfl; have e := nV_dec HL.out hk HX.out HD.out HSS.out HLLL.out; exact absurd (by rw [HM.out, e]; exact nB_nDec HL.out hk) hq)
        have o2 := HV.out.obj HZ2X.out (by simp)
        have y0 := cell_of_row w5 _ 0 _ _ _ o2
        have y1 := cell_of_row w5 _ 1 _ _ _ o2
        have y2 := cell_of_row w5 _ 2 _ _ _ o2
        have y3 := cell_of_row w5 _ 3 _ _ _ o2
        have y4 := cell_of_row w5 _ 4 _ _ _ o2
        have hne : (m == l) = false := by simpa using hq
        clear o1 o2
        go_wp2
        refine bodyPost_ret (v := .tuple #[nZero, .int .i64 41]) ?_ rfl ⟨_, rfl, GotNode.no HNO.out rfl, Fr.setCells (by simp) [.bool false, .int .i64 0, .int .i64 0, .slice none 0 0, .slice none 0 0] 0 _ (HFX.out.trans HV.out)⟩
        exact results_row Try.results29 _ _ w.heap.size 54 _ _ _ rfl rfl (obj_setCells O1.out [.bool false, .int .i64 0, .int .i64 0, .slice none 0 0, .slice none 0 0] rfl) Try.underlying54 rfl infoN
  · have hz1s := (Array.getElem?_eq_some_iff.1 HZ2.out).1
    have hRel := nodeB (hzB _ hzA) [.bool D, .int .i64 (nm l 1 4 - 1), .int .i64 (nm l 5 4 - 1), .slice laA LL.length lcA, .slice (some ⟨gA, 0, none⟩) S.length cA] rfl
    obtain ⟨hX, fX⟩ := hRel
    generalize hwX : wB.setCells wb.heap.size 0 [.bool D, .int .i64 (nm l 1 4 - 1), .int .i64 (nm l 5 4 - 1), .slice laA LL.length lcA, .slice (some ⟨gA, 0, none⟩) S.length cA] = wX at hX fX ⊢
    have hA1 := hA.size
    have hB1 := hB.size
    simp at hA1 hB1 hgA
    have fAX : Fr [wb.heap.size] wA wX := (hB.mono (by simp)).trans fX
    have fbX0 : Fr [wb.heap.size] wb wX := (((Fr.refl [wb.heap.size] wb).alloc (.cells #[.bool false, .int .i64 0, .int .i64 0, .slice none 0 0, .slice none 0 0] 54)).drew.trans (hA.mono (by simp))).trans fAX
    have fbX : Fr [] wb wX := fbX0.mono (by intro k hk hlt; simp at hk; omega)
    have HFX := Lib.hid (HFB.out.trans fbX)
    have HLX := Lib.hid (own_base (own_fr hlA fAX (by intro g hg hm; have h1 := (own_lt hlA hg).1; simp at hm h1; omega)) (show w.heap.size ≤ _ by simp; omega))
    have HOX := Lib.hid (own_base (own_fr hoA fX (by intro g hg hm; simp [Value.ownBlock] at hg hm; omega)) (show w.heap.size ≤ _ by omega))
    have HDS := Lib.hid (show ∀ g, (Value.slice laA LL.length lcA).ownBlock = some g → (Value.slice (some ⟨gA, 0, none⟩) S.length cA).ownBlock ≠ some g from by intro g hg hm; have h1 := (own_lt hlA hg).2; simp [Value.ownBlock] at hm; omega)
    have HZ1X := Lib.hid (fbX.obj HZ1.out (by simp))
    have HZ2X := Lib.hid (fbX.obj HZ2.out (by simp))
    have HXX := Lib.hid hX
    have HGN := Lib.hid (show gA ≠ w.heap.size by omega)
    have HLN := Lib.hid (show ∀ g, (Value.slice laA LL.length lcA).ownBlock = some g → g ≠ w.heap.size from by intro g hg; have h1 := (own_lt hlA hg).1; simp at h1; omega)
    have x0 := cell_of_row wX _ 0 _ _ _ hX
    have x1 := cell_of_row wX _ 1 _ _ _ hX
    have x2 := cell_of_row wX _ 2 _ _ _ hX
    have x3 := cell_of_row wX _ 3 _ _ _ hX
    have x4 := cell_of_row wX _ 4 _ _ _ hX
    clear hX fX hwX hoA hlA hA hB fbX hcb hcz hgA hA1 hB1 hz1s hzB hKA fAX hzA fbX0
    go_wp2_with fail
    have hIX := ints_own_ HLX.out
    cases hfin : nFine ⟨D, (nm l 1 4 : Int) - 1, (nm l 5 4 : Int) - 1, LL, S⟩
    · have HNO := Lib.hid (show nOk l = false by cases hk : nOk l; rfl; have e := nV_dec HL.out hk HX.out HD.out HSS.out HLLL.out; have := nOk_fine2 hk; rw [← e, hfin] at this; cases this)
      refine (refPutNode_no D (nm l 1 4 - 1) (nm l 5 4 - 1) laA lcA LL (some ⟨gA, 0, none⟩) cA S wX (by have := labsOf_length (nLabs l); have h8 := nLabs_length l HL.out; rw [HLLL.out]; omega) hIX hfin).mono ?_
      clear hfin hIX
      rintro e w5 ⟨v, rfl, hv⟩
      have HV := Lib.hid hv.fr
      clear hv x0 x1 x2 x3 x4
      have o1 := HV.out.obj HZ1X.out (by simp)
      have o2 := HV.out.obj HZ2X.out (by simp)
      have hz1 : NZat w5 w.heap.size := o1
      have O1 := Lib.hid o1
      have y0 := cell_of_row w5 _ 0 _ _ _ o2
      have y1 := cell_of_row w5 _ 1 _ _ _ o2
      have y2 := cell_of_row w5 _ 2 _ _ _ o2
      have y3 := cell_of_row w5 _ 3 _ _ _ o2
      have y4 := cell_of_row w5 _ 4 _ _ _ o2
      clear o1 o2
      go_wp2
      refine bodyPost_ret (v := .tuple #[nZero, .int .i64 41]) ?_ rfl ⟨_, rfl, GotNode.no HNO.out rfl, Fr.setCells (by simp) [.bool false, .int .i64 0, .int .i64 0, .slice none 0 0, .slice none 0 0] 0 _ (HFX.out.trans HV.out)⟩
      exact results_row Try.results29 _ _ w.heap.size 54 _ _ _ rfl rfl (obj_setCells O1.out [.bool false, .int .i64 0, .int .i64 0, .slice none 0 0, .slice none 0 0] rfl) Try.underlying54 rfl infoN
    · have hy := refPutNode_yes D (nm l 1 4 - 1) (nm l 5 4 - 1) laA lcA LL (some ⟨gA, 0, none⟩) cA S wX hIX (own_bytes HOX.out) hfin
      have HFIN := Lib.hid hfin
      obtain ⟨m, hm⟩ : ∃ m, m = nB ⟨D, (nm l 1 4 : Int) - 1, (nm l 5 4 : Int) - 1, LL, S⟩ := ⟨_, rfl⟩
      rw [← hm] at hy
      have HM := Lib.hid hm
      have HY := Lib.hid hy
      clear hfin hy hm hIX
      refine HY.out.mono ?_
      rintro e w5 ⟨v, rfl, hv⟩
      obtain ⟨g, cap, rfl, hg, hlt, hbv, hfv⟩ := hv.bytes
      have HV := Lib.hid hfv
      have q1 := conv_any (some ⟨g, 0, none⟩) cap m w5 (fun h => by cases h) hbv
      have q2 := conv_any (some ⟨ab, ao, none⟩) c l w5 (fun h => by cases h) (HB.out.keep (HFX.out.trans HV.out))
      rw [HL.out] at q2
      clear hv hbv hfv hg hlt x0 x1 x2 x3 x4
      have o1 := HV.out.obj HZ1X.out (by simp)
      have hz1 : NZat w5 w.heap.size := o1
      have O1 := Lib.hid o1
      by_cases hq : m = l
      · have HQ := Lib.hid (HM.out.symm.trans hq)
        have o2 := HV.out.obj HXX.out (by simp)
        have y0 := cell_of_row w5 _ 0 _ _ _ o2
        have y1 := cell_of_row w5 _ 1 _ _ _ o2
        have y2 := cell_of_row w5 _ 2 _ _ _ o2
        have y3 := cell_of_row w5 _ 3 _ _ _ o2
        have y4 := cell_of_row w5 _ 4 _ _ _ o2
        have HOKK := Lib.hid (show nOk l = true by have := nOk_nB _ HFIN.out; rwa [HQ.out] at this)
        have HDEC := Lib.hid (nV_dec HL.out HOKK.out HX.out HD.out HSS.out HLLL.out)
        rw [hq] at q1 ⊢
        clear o1 o2
        go_wp2
        refine bodyPost_ret (v := .tuple #[.agg [.bool D, .int .i64 (nm l 1 4 - 1), .int .i64 (nm l 5 4 - 1), .slice laA LL.length lcA, .slice (some ⟨gA, 0, none⟩) S.length cA].toArray, .int .i64 0]) ?_ rfl ⟨_, rfl, ?_, Fr.setCells (by simp) [.bool D, .int .i64 (nm l 1 4 - 1), .int .i64 (nm l 5 4 - 1), .slice laA LL.length lcA, .slice (some ⟨gA, 0, none⟩) S.length cA] 0 _ (HFX.out.trans HV.out)⟩
        · exact results_row Try.results29 _ _ w.heap.size 54 _ _ _ rfl rfl (obj_setCells O1.out [.bool D, .int .i64 (nm l 1 4 - 1), .int .i64 (nm l 5 4 - 1), .slice laA LL.length lcA, .slice (some ⟨gA, 0, none⟩) S.length cA] rfl) Try.underlying54 rfl infoN
        · exact GotNode.yes2 HOKK.out HDEC.out (own_setCellsI (b := w.heap.size) HLN.out [.bool D, .int .i64 (nm l 1 4 - 1), .int .i64 (nm l 5 4 - 1), .slice laA LL.length lcA, .slice (some ⟨gA, 0, none⟩) S.length cA] 0 (own_fr HLX.out HV.out (by simp))) (own_setCells (b := w.heap.size) (by intro g hg; have := HGN.out; simp [Value.ownBlock] at hg; omega) [.bool D, .int .i64 (nm l 1 4 - 1), .int .i64 (nm l 5 4 - 1), .slice laA LL.length lcA, .slice (some ⟨gA, 0, none⟩) S.length cA] 0 (own_fr HOX.out HV.out (by simp))) HDS.out
      · have HNO := Lib.hid (show nOk l = false by cases hk : nOk l; rfl; have e := nV_dec HL.out hk HX.out HD.out HSS.out HLLL.out; exact absurd (by rw [HM.out, e]; exact nB_nDec HL.out hk) hq)
        have o2 := HV.out.obj HZ2X.out (by simp)
        have y0 := cell_of_row w5 _ 0 _ _ _ o2
        have y1 := cell_of_row w5 _ 1 _ _ _ o2
        have y2 := cell_of_row w5 _ 2 _ _ _ o2
        have y3 := cell_of_row w5 _ 3 _ _ _ o2
        have y4 := cell_of_row w5 _ 4 _ _ _ o2
        have hne : (m == l) = false := by simpa using hq
        clear o1 o2
        go_wp2
        refine bodyPost_ret (v := .tuple #[nZero, .int .i64 41]) ?_ rfl ⟨_, rfl, GotNode.no HNO.out rfl, Fr.setCells (by simp) [.bool false, .int .i64 0, .int .i64 0, .slice none 0 0, .slice none 0 0] 0 _ (HFX.out.trans HV.out)⟩
        exact results_row Try.results29 _ _ w.heap.size 54 _ _ _ rfl rfl (obj_setCells O1.out [.bool false, .int .i64 0, .int .i64 0, .slice none 0 0, .slice none 0 0] rfl) Try.underlying54 rfl infoN
  · have hz1s := (Array.getElem?_eq_some_iff.1 HZ2.out).1
    have hRel := nodeB (hzB _ hzA) [.bool D, .int .i64 (nm l 1 4 - 1), .int .i64 (nm l 5 4 - 1), .slice laA LL.length lcA, .slice (some ⟨gA, 0, none⟩) S.length cA] rfl
    obtain ⟨hX, fX⟩ := hRel
    generalize hwX : wB.setCells wb.heap.size 0 [.bool D, .int .i64 (nm l 1 4 - 1), .int .i64 (nm l 5 4 - 1), .slice laA LL.length lcA, .slice (some ⟨gA, 0, none⟩) S.length cA] = wX at hX fX ⊢
    have hA1 := hA.size
    have hB1 := hB.size
    simp at hA1 hB1 hgA
    have fAX : Fr [wb.heap.size] wA wX := (hB.mono (by simp)).trans fX
    have fbX0 : Fr [wb.heap.size] wb wX := (((Fr.refl [wb.heap.size] wb).alloc (.cells #[.bool false, .int .i64 0, .int .i64 0, .slice none 0 0, .slice none 0 0] 54)).drew.trans (hA.mono (by simp))).trans fAX
    have fbX : Fr [] wb wX := fbX0.mono (by intro k hk hlt; simp at hk; omega)
    have HFX := Lib.hid (HFB.out.trans fbX)
    have HLX := Lib.hid (own_base (own_fr hlA fAX (by intro g hg hm; have h1 := (own_lt hlA hg).1; simp at hm h1; omega)) (show w.heap.size ≤ _ by simp; omega))
    have HOX := Lib.hid (own_base (own_fr hoA fX (by intro g hg hm; simp [Value.ownBlock] at hg hm; omega)) (show w.heap.size ≤ _ by omega))
    have HDS := Lib.hid (show ∀ g, (Value.slice laA LL.length lcA).ownBlock = some g → (Value.slice (some ⟨gA, 0, none⟩) S.length cA).ownBlock ≠ some g from by intro g hg hm; have h1 := (own_lt hlA hg).2; simp [Value.ownBlock] at hm; omega)
    have HZ1X := Lib.hid (fbX.obj HZ1.out (by simp))
    have HZ2X := Lib.hid (fbX.obj HZ2.out (by simp))
    have HXX := Lib.hid hX
    have HGN := Lib.hid (show gA ≠ w.heap.size by omega)
    have HLN := Lib.hid (show ∀ g, (Value.slice laA LL.length lcA).ownBlock = some g → g ≠ w.heap.size from by intro g hg; have h1 := (own_lt hlA hg).1; simp at h1; omega)
    have x0 := cell_of_row wX _ 0 _ _ _ hX
    have x1 := cell_of_row wX _ 1 _ _ _ hX
    have x2 := cell_of_row wX _ 2 _ _ _ hX
    have x3 := cell_of_row wX _ 3 _ _ _ hX
    have x4 := cell_of_row wX _ 4 _ _ _ hX
    clear hX fX hwX hoA hlA hA hB fbX hcb hcz hgA hA1 hB1 hz1s hzB hKA fAX hzA fbX0
    go_wp2_with fail
    have hIX := ints_own_ HLX.out
    cases hfin : nFine ⟨D, (nm l 1 4 : Int) - 1, (nm l 5 4 : Int) - 1, LL, S⟩
    · have HNO := Lib.hid (show nOk l = false by cases hk : nOk l; rfl; have e := nV_dec HL.out hk HX.out HD.out HSS.out HLLL.out; have := nOk_fine2 hk; rw [← e, hfin] at this; cases this)
      refine (refPutNode_no D (nm l 1 4 - 1) (nm l 5 4 - 1) laA lcA LL (some ⟨gA, 0, none⟩) cA S wX (by have := labsOf_length (nLabs l); have h8 := nLabs_length l HL.out; rw [HLLL.out]; omega) hIX hfin).mono ?_
      clear hfin hIX
      rintro e w5 ⟨v, rfl, hv⟩
      have HV := Lib.hid hv.fr
      clear hv x0 x1 x2 x3 x4
      have o1 := HV.out.obj HZ1X.out (by simp)
      have o2 := HV.out.obj HZ2X.out (by simp)
      have hz1 : NZat w5 w.heap.size := o1
      have O1 := Lib.hid o1
      have y0 := cell_of_row w5 _ 0 _ _ _ o2
      have y1 := cell_of_row w5 _ 1 _ _ _ o2
      have y2 := cell_of_row w5 _ 2 _ _ _ o2
      have y3 := cell_of_row w5 _ 3 _ _ _ o2
      have y4 := cell_of_row w5 _ 4 _ _ _ o2
      clear o1 o2
      go_wp2
      refine bodyPost_ret (v := .tuple #[nZero, .int .i64 41]) ?_ rfl ⟨_, rfl, GotNode.no HNO.out rfl, Fr.setCells (by simp) [.bool false, .int .i64 0, .int .i64 0, .slice none 0 0, .slice none 0 0] 0 _ (HFX.out.trans HV.out)⟩
      exact results_row Try.results29 _ _ w.heap.size 54 _ _ _ rfl rfl (obj_setCells O1.out [.bool false, .int .i64 0, .int .i64 0, .slice none 0 0, .slice none 0 0] rfl) Try.underlying54 rfl infoN
    · have hy := refPutNode_yes D (nm l 1 4 - 1) (nm l 5 4 - 1) laA lcA LL (some ⟨gA, 0, none⟩) cA S wX hIX (own_bytes HOX.out) hfin
      have HFIN := Lib.hid hfin
      obtain ⟨m, hm⟩ : ∃ m, m = nB ⟨D, (nm l 1 4 : Int) - 1, (nm l 5 4 : Int) - 1, LL, S⟩ := ⟨_, rfl⟩
      rw [← hm] at hy
      have HM := Lib.hid hm
      have HY := Lib.hid hy
      clear hfin hy hm hIX
      refine HY.out.mono ?_
      rintro e w5 ⟨v, rfl, hv⟩
      obtain ⟨g, cap, rfl, hg, hlt, hbv, hfv⟩ := hv.bytes
      have HV := Lib.hid hfv
      have q1 := conv_any (some ⟨g, 0, none⟩) cap m w5 (fun h => by cases h) hbv
      have q2 := conv_any (some ⟨ab, ao, none⟩) c l w5 (fun h => by cases h) (HB.out.keep (HFX.out.trans HV.out))
      rw [HL.out] at q2
      clear hv hbv hfv hg hlt x0 x1 x2 x3 x4
      have o1 := HV.out.obj HZ1X.out (by simp)
      have hz1 : NZat w5 w.heap.size := o1
      have O1 := Lib.hid o1
      by_cases hq : m = l
      · have HQ := Lib.hid (HM.out.symm.trans hq)
        have o2 := HV.out.obj HXX.out (by simp)
        have y0 := cell_of_row w5 _ 0 _ _ _ o2
        have y1 := cell_of_row w5 _ 1 _ _ _ o2
        have y2 := cell_of_row w5 _ 2 _ _ _ o2
        have y3 := cell_of_row w5 _ 3 _ _ _ o2
        have y4 := cell_of_row w5 _ 4 _ _ _ o2
        have HOKK := Lib.hid (show nOk l = true by have := nOk_nB _ HFIN.out; rwa [HQ.out] at this)
        have HDEC := Lib.hid (nV_dec HL.out HOKK.out HX.out HD.out HSS.out HLLL.out)
        rw [hq] at q1 ⊢
        clear o1 o2
        go_wp2
        refine bodyPost_ret (v := .tuple #[.agg [.bool D, .int .i64 (nm l 1 4 - 1), .int .i64 (nm l 5 4 - 1), .slice laA LL.length lcA, .slice (some ⟨gA, 0, none⟩) S.length cA].toArray, .int .i64 0]) ?_ rfl ⟨_, rfl, ?_, Fr.setCells (by simp) [.bool D, .int .i64 (nm l 1 4 - 1), .int .i64 (nm l 5 4 - 1), .slice laA LL.length lcA, .slice (some ⟨gA, 0, none⟩) S.length cA] 0 _ (HFX.out.trans HV.out)⟩
        · exact results_row Try.results29 _ _ w.heap.size 54 _ _ _ rfl rfl (obj_setCells O1.out [.bool D, .int .i64 (nm l 1 4 - 1), .int .i64 (nm l 5 4 - 1), .slice laA LL.length lcA, .slice (some ⟨gA, 0, none⟩) S.length cA] rfl) Try.underlying54 rfl infoN
        · exact GotNode.yes2 HOKK.out HDEC.out (own_setCellsI (b := w.heap.size) HLN.out [.bool D, .int .i64 (nm l 1 4 - 1), .int .i64 (nm l 5 4 - 1), .slice laA LL.length lcA, .slice (some ⟨gA, 0, none⟩) S.length cA] 0 (own_fr HLX.out HV.out (by simp))) (own_setCells (b := w.heap.size) (by intro g hg; have := HGN.out; simp [Value.ownBlock] at hg; omega) [.bool D, .int .i64 (nm l 1 4 - 1), .int .i64 (nm l 5 4 - 1), .slice laA LL.length lcA, .slice (some ⟨gA, 0, none⟩) S.length cA] 0 (own_fr HOX.out HV.out (by simp))) HDS.out
      · have HNO := Lib.hid (show nOk l = false by cases hk : nOk l; rfl; have e := nV_dec HL.out hk HX.out HD.out HSS.out HLLL.out; exact absurd (by rw [HM.out, e]; exact nB_nDec HL.out hk) hq)
        have o2 := HV.out.obj HZ2X.out (by simp)
        have y0 := cell_of_row w5 _ 0 _ _ _ o2
        have y1 := cell_of_row w5 _ 1 _ _ _ o2
        have y2 := cell_of_row w5 _ 2 _ _ _ o2
        have y3 := cell_of_row w5 _ 3 _ _ _ o2
        have y4 := cell_of_row w5 _ 4 _ _ _ o2
        have hne : (m == l) = false := by simpa using hq
        clear o1 o2
        go_wp2
        refine bodyPost_ret (v := .tuple #[nZero, .int .i64 41]) ?_ rfl ⟨_, rfl, GotNode.no HNO.out rfl, Fr.setCells (by simp) [.bool false, .int .i64 0, .int .i64 0, .slice none 0 0, .slice none 0 0] 0 _ (HFX.out.trans HV.out)⟩
        exact results_row Try.results29 _ _ w.heap.size 54 _ _ _ rfl rfl (obj_setCells O1.out [.bool false, .int .i64 0, .int .i64 0, .slice none 0 0, .slice none 0 0] rfl) Try.underlying54 rfl infoN
  · have hz1s := (Array.getElem?_eq_some_iff.1 HZ2.out).1
    have hRel := nodeB (hzB _ hzA) [.bool D, .int .i64 (nm l 1 4 - 1), .int .i64 (nm l 5 4 - 1), .slice laA LL.length lcA, .slice (some ⟨gA, 0, none⟩) S.length cA] rfl
    obtain ⟨hX, fX⟩ := hRel
    generalize hwX : wB.setCells wb.heap.size 0 [.bool D, .int .i64 (nm l 1 4 - 1), .int .i64 (nm l 5 4 - 1), .slice laA LL.length lcA, .slice (some ⟨gA, 0, none⟩) S.length cA] = wX at hX fX ⊢
    have hA1 := hA.size
    have hB1 := hB.size
    simp at hA1 hB1 hgA
    have fAX : Fr [wb.heap.size] wA wX := (hB.mono (by simp)).trans fX
    have fbX0 : Fr [wb.heap.size] wb wX := (((Fr.refl [wb.heap.size] wb).alloc (.cells #[.bool false, .int .i64 0, .int .i64 0, .slice none 0 0, .slice none 0 0] 54)).drew.trans (hA.mono (by simp))).trans fAX
    have fbX : Fr [] wb wX := fbX0.mono (by intro k hk hlt; simp at hk; omega)
    have HFX := Lib.hid (HFB.out.trans fbX)
    have HLX := Lib.hid (own_base (own_fr hlA fAX (by intro g hg hm; have h1 := (own_lt hlA hg).1; simp at hm h1; omega)) (show w.heap.size ≤ _ by simp; omega))
    have HOX := Lib.hid (own_base (own_fr hoA fX (by intro g hg hm; simp [Value.ownBlock] at hg hm; omega)) (show w.heap.size ≤ _ by omega))
    have HDS := Lib.hid (show ∀ g, (Value.slice laA LL.length lcA).ownBlock = some g → (Value.slice (some ⟨gA, 0, none⟩) S.length cA).ownBlock ≠ some g from by intro g hg hm; have h1 := (own_lt hlA hg).2; simp [Value.ownBlock] at hm; omega)
    have HZ1X := Lib.hid (fbX.obj HZ1.out (by simp))
    have HZ2X := Lib.hid (fbX.obj HZ2.out (by simp))
    have HXX := Lib.hid hX
    have HGN := Lib.hid (show gA ≠ w.heap.size by omega)
    have HLN := Lib.hid (show ∀ g, (Value.slice laA LL.length lcA).ownBlock = some g → g ≠ w.heap.size from by intro g hg; have h1 := (own_lt hlA hg).1; simp at h1; omega)
    have x0 := cell_of_row wX _ 0 _ _ _ hX
    have x1 := cell_of_row wX _ 1 _ _ _ hX
    have x2 := cell_of_row wX _ 2 _ _ _ hX
    have x3 := cell_of_row wX _ 3 _ _ _ hX
    have x4 := cell_of_row wX _ 4 _ _ _ hX
    clear hX fX hwX hoA hlA hA hB fbX hcb hcz hgA hA1 hB1 hz1s hzB hKA fAX hzA fbX0
    go_wp2_with fail
    have hIX := ints_own_ HLX.out
    cases hfin : nFine ⟨D, (nm l 1 4 : Int) - 1, (nm l 5 4 : Int) - 1, LL, S⟩
    · have HNO := Lib.hid (show nOk l = false by cases hk : nOk l; rfl; have e := nV_dec HL.out hk HX.out HD.out HSS.out HLLL.out; have := nOk_fine2 hk; rw [← e, hfin] at this; cases this)
      refine (refPutNode_no D (nm l 1 4 - 1) (nm l 5 4 - 1) laA lcA LL (some ⟨gA, 0, none⟩) cA S wX (by have := labsOf_length (nLabs l); have h8 := nLabs_length l HL.out; rw [HLLL.out]; omega) hIX hfin).mono ?_
      clear hfin hIX
      rintro e w5 ⟨v, rfl, hv⟩
      have HV := Lib.hid hv.fr
      clear hv x0 x1 x2 x3 x4
      have o1 := HV.out.obj HZ1X.out (by simp)
      have o2 := HV.out.obj HZ2X.out (by simp)
      have hz1 : NZat w5 w.heap.size := o1
      have O1 := Lib.hid o1
      have y0 := cell_of_row w5 _ 0 _ _ _ o2
      have y1 := cell_of_row w5 _ 1 _ _ _ o2
      have y2 := cell_of_row w5 _ 2 _ _ _ o2
      have y3 := cell_of_row w5 _ 3 _ _ _ o2
      have y4 := cell_of_row w5 _ 4 _ _ _ o2
      clear o1 o2
      go_wp2
      refine bodyPost_ret (v := .tuple #[nZero, .int .i64 41]) ?_ rfl ⟨_, rfl, GotNode.no HNO.out rfl, Fr.setCells (by simp) [.bool false, .int .i64 0, .int .i64 0, .slice none 0 0, .slice none 0 0] 0 _ (HFX.out.trans HV.out)⟩
      exact results_row Try.results29 _ _ w.heap.size 54 _ _ _ rfl rfl (obj_setCells O1.out [.bool false, .int .i64 0, .int .i64 0, .slice none 0 0, .slice none 0 0] rfl) Try.underlying54 rfl infoN
    · have hy := refPutNode_yes D (nm l 1 4 - 1) (nm l 5 4 - 1) laA lcA LL (some ⟨gA, 0, none⟩) cA S wX hIX (own_bytes HOX.out) hfin
      have HFIN := Lib.hid hfin
      obtain ⟨m, hm⟩ : ∃ m, m = nB ⟨D, (nm l 1 4 : Int) - 1, (nm l 5 4 : Int) - 1, LL, S⟩ := ⟨_, rfl⟩
      rw [← hm] at hy
      have HM := Lib.hid hm
      have HY := Lib.hid hy
      clear hfin hy hm hIX
      refine HY.out.mono ?_
      rintro e w5 ⟨v, rfl, hv⟩
      obtain ⟨g, cap, rfl, hg, hlt, hbv, hfv⟩ := hv.bytes
      have HV := Lib.hid hfv
      have q1 := conv_any (some ⟨g, 0, none⟩) cap m w5 (fun h => by cases h) hbv
      have q2 := conv_any (some ⟨ab, ao, none⟩) c l w5 (fun h => by cases h) (HB.out.keep (HFX.out.trans HV.out))
      rw [HL.out] at q2
      clear hv hbv hfv hg hlt x0 x1 x2 x3 x4
      have o1 := HV.out.obj HZ1X.out (by simp)
      have hz1 : NZat w5 w.heap.size := o1
      have O1 := Lib.hid o1
      by_cases hq : m = l
      · have HQ := Lib.hid (HM.out.symm.trans hq)
        have o2 := HV.out.obj HXX.out (by simp)
        have y0 := cell_of_row w5 _ 0 _ _ _ o2
        have y1 := cell_of_row w5 _ 1 _ _ _ o2
        have y2 := cell_of_row w5 _ 2 _ _ _ o2
        have y3 := cell_of_row w5 _ 3 _ _ _ o2
        have y4 := cell_of_row w5 _ 4 _ _ _ o2
        have HOKK := Lib.hid (show nOk l = true by have := nOk_nB _ HFIN.out; rwa [HQ.out] at this)
        have HDEC := Lib.hid (nV_dec HL.out HOKK.out HX.out HD.out HSS.out HLLL.out)
        rw [hq] at q1 ⊢
        clear o1 o2
        go_wp2
        refine bodyPost_ret (v := .tuple #[.agg [.bool D, .int .i64 (nm l 1 4 - 1), .int .i64 (nm l 5 4 - 1), .slice laA LL.length lcA, .slice (some ⟨gA, 0, none⟩) S.length cA].toArray, .int .i64 0]) ?_ rfl ⟨_, rfl, ?_, Fr.setCells (by simp) [.bool D, .int .i64 (nm l 1 4 - 1), .int .i64 (nm l 5 4 - 1), .slice laA LL.length lcA, .slice (some ⟨gA, 0, none⟩) S.length cA] 0 _ (HFX.out.trans HV.out)⟩
        · exact results_row Try.results29 _ _ w.heap.size 54 _ _ _ rfl rfl (obj_setCells O1.out [.bool D, .int .i64 (nm l 1 4 - 1), .int .i64 (nm l 5 4 - 1), .slice laA LL.length lcA, .slice (some ⟨gA, 0, none⟩) S.length cA] rfl) Try.underlying54 rfl infoN
        · exact GotNode.yes2 HOKK.out HDEC.out (own_setCellsI (b := w.heap.size) HLN.out [.bool D, .int .i64 (nm l 1 4 - 1), .int .i64 (nm l 5 4 - 1), .slice laA LL.length lcA, .slice (some ⟨gA, 0, none⟩) S.length cA] 0 (own_fr HLX.out HV.out (by simp))) (own_setCells (b := w.heap.size) (by intro g hg; have := HGN.out; simp [Value.ownBlock] at hg; omega) [.bool D, .int .i64 (nm l 1 4 - 1), .int .i64 (nm l 5 4 - 1), .slice laA LL.length lcA, .slice (some ⟨gA, 0, none⟩) S.length cA] 0 (own_fr HOX.out HV.out (by simp))) HDS.out
      · have HNO := Lib.hid (show nOk l = false by cases hk : nOk l; rfl; have e := nV_dec HL.out hk HX.out HD.out HSS.out HLLL.out; exact absurd (by rw [HM.out, e]; exact nB_nDec HL.out hk) hq)
        have o2 := HV.out.obj HZ2X.out (by simp)
        have y0 := cell_of_row w5 _ 0 _ _ _ o2
        have y1 := cell_of_row w5 _ 1 _ _ _ o2
        have y2 := cell_of_row w5 _ 2 _ _ _ o2
        have y3 := cell_of_row w5 _ 3 _ _ _ o2
        have y4 := cell_of_row w5 _ 4 _ _ _ o2
        have hne : (m == l) = false := by simpa using hq
        clear o1 o2
        go_wp2
        refine bodyPost_ret (v := .tuple #[nZero, .int .i64 41]) ?_ rfl ⟨_, rfl, GotNode.no HNO.out rfl, Fr.setCells (by simp) [.bool false, .int .i64 0, .int .i64 0, .slice none 0 0, .slice none 0 0] 0 _ (HFX.out.trans HV.out)⟩
        exact results_row Try.results29 _ _ w.heap.size 54 _ _ _ rfl rfl (obj_setCells O1.out [.bool false, .int .i64 0, .int .i64 0, .slice none 0 0, .slice none 0 0] rfl) Try.underlying54 rfl infoN
end Go.Proofs.Ytmekplamjlnhcaa
