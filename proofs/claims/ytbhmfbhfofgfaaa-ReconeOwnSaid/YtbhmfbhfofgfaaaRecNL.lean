/- The walks of the document's Labels and GetNode of version 2. -/
import Derived.Test.YtbhmfbhfofgfaaaRecX
import Derived.Test.YtbhmfbhfofgfaaaRecL
namespace Go.Proofs.Ytbhmfbhfofgfaaa
open Go.RowKit
attribute [local go_sem ↓] Go.wp_at_zero Go.wp_at_succ
theorem I8_ne0' (x : UInt8) : (I8 x != 0) = !(x == 0) := by
  have h : (0 : Int) = I8 0 := by decide +kernel
  rw [h]; unfold bne; rw [I8_eq]
theorem gap_all {cs : List UInt8} (h : gapAt cs = false) : ∀ c ∈ cs, (c != 0) = true := by
  intro c hc
  unfold gapAt at h
  have := List.any_eq_false.1 h c hc
  unfold bne
  simpa using this
theorem labs_stop {cs : List UInt8} {x : UInt8} (r : List UInt8) (hg : gapAt cs = false) (hx : (x == 0) = true) : labsOf (cs ++ x :: r) = labsOf cs := by
  unfold labsOf
  have e : x = 0 := by simpa using hx
  subst e
  rw [List.takeWhile_append_of_pos (gap_all hg), (tw_all hg).1]
  simp
theorem labs_all {cs : List UInt8} (h : ∀ c ∈ cs, (c != 0) = true) : (cs.map fun c : UInt8 => (c.toNat : Int) - 1).map labByte = cs := by
  rw [List.map_map]
  conv => rhs; rw [← List.map_id cs]
  apply List.map_congr_left
  intro c hc
  have h0 := h c hc
  have h1 : c.toNat ≠ 0 := by
    intro e
    have : c = 0 := UInt8.toNat_inj.1 (by rw [e]; rfl)
    subst this
    simp at h0
  show labByte ((c.toNat : Int) - 1) = c
  unfold labByte
  rw [show ((c.toNat : Int) - 1 + 1).toNat = c.toNat by omega]
  exact UInt8.toNat_inj.1 (by rw [UInt8.toNat_ofNat', Nat.mod_eq_of_lt (by have := c.toNat_lt; omega)])
theorem tw_pos (cs : List UInt8) : ∀ c ∈ cs.takeWhile (· != 0), (c != 0) = true := by
  intro c hc
  have := List.all_takeWhile (l := cs) (p := (· != 0))
  exact List.all_eq_true.1 this c hc
theorem labB_labsOf {cs : List UInt8} (h8 : cs.length = 8) (hg : gapOk cs = true) : labB (labsOf cs) = cs := by
  unfold labB labsOf
  rw [labs_all (tw_pos cs), List.length_map]
  have e : cs.takeWhile (· != 0) ++ cs.dropWhile (· != 0) = cs := List.takeWhile_append_dropWhile
  have hl : (cs.takeWhile (· != 0)).length + (cs.dropWhile (· != 0)).length = 8 := by rw [← List.length_append, e, h8]
  have hz : cs.dropWhile (· != 0) = List.replicate (8 - (cs.takeWhile (· != 0)).length) 0 := by
    rw [List.eq_replicate_iff]
    refine ⟨by omega, fun c hc => ?_⟩
    unfold gapOk at hg
    have := List.all_eq_true.1 hg c hc
    simpa using this
  rw [← hz, e]
theorem nm1_byte {l : List UInt8} (h : 0 < l.length) : nm l 0 1 = (l.getD 0 0).toNat := by
  cases l with
  | nil => simp at h
  | cons x r =>
    rw [nm_def]
    show be [x] = _
    simp [be]
theorem nB_nDec {l : List UInt8} (h : l.length = 65) (hk : nOk l = true) : nB (nDec l) = l := by
  unfold nOk at hk
  simp only [Bool.and_eq_true, decide_eq_true_eq] at hk
  obtain ⟨h1, h2, h3⟩ := hk
  have hd : (if ((nm l 0 1 : Int) == 1) = true then 1 else 0 : Nat) = nm l 0 1 := by
    by_cases e : nm l 0 1 = 1
    · rw [e]; rfl
    · have e0 : nm l 0 1 = 0 := by omega
      rw [e0]; rfl
  unfold nB nDec ptrs
  simp only [List.flatMap_cons, List.flatMap_nil, List.append_nil, ptr_back]
  rw [labB_labsOf (nLabs_length l h) h2, hd, by8_nm l 0 1 (by omega), by8_nm l 1 4 (by omega), by8_nm l 5 4 (by omega)]
  unfold nLabs
  rw [List.drop_zero, ← List.append_assoc, take_join, take_join, take_join, take_join]
  exact List.take_of_length_le (by omega)
set_option maxRecDepth 100000 in
set_option maxHeartbeats 1600000 in
theorem Labels_any (a : Option Addr) (c : Nat) (l : List UInt8) (w : World) (hl : l.length ≤ 100) (hb : Bytes w a l) :
    Calls Try.prog 42 #[.slice a l.length c] w fun e w' => ∃ v, e = .returned v ∧ w'.ownsRow w.heap.size 3 1 v (labsOf l).length ((labsOf l).map (Value.int .i64)) ∧ Fr [] w w' := by
  have HB := Lib.hid hb
  clear hb
  go_enter Try.func42, Try.ntmps42
  go_wp2_with fail
  go_loopw [3, 4] (fun u i wr => ∃ k : Nat, k ≤ l.length ∧ i = .int .i64 k ∧ gapAt (l.take k) = false ∧ wr.ownsRow w.heap.size 3 1 u (labsOf (l.take k)).length ((labsOf (l.take k)).map (Value.int .i64)) ∧ Fr [] w wr) (fun _ i _ => l.length - (intOf i).toNat)
  case atStart => exact ⟨0, by omega, rfl, by simp [gapAt], by simpa [labsOf] using own_empty w 3, (Fr.refl _ _).alloc _⟩
  case round =>
    obtain ⟨k, hk, rfl, hgp, hown, hf⟩ := hrel
    have HG := Lib.hid hgp
    have HW := Lib.hid hown
    have HF := Lib.hid hf
    have HLL := Lib.hid (labsOf_length (l.take k))
    clear hgp hown hf
    by_cases hlt : k < l.length
    · obtain ⟨b, off, rfl, hc⟩ := HB.out.at (by omega)
      have hcell : wr.cell? ⟨b, off + k, none⟩ = some (.int .u8 (I8 (l.getD k 0))) := HF.out.cell (hc k hlt) (by simp)
      clear hc
      obtain ⟨x, hx⟩ : ∃ x, x = l.getD k 0 := ⟨_, rfl⟩
      rw [← hx] at hcell
      have hxk : x = l[k] := by rw [hx]; simp [List.getD, hlt]
      have HTK := Lib.hid (show l.take (k + 1) = l.take k ++ [x] by rw [take_snoc l k hlt, hxk])
      have HDR := Lib.hid (show l = l.take k ++ x :: l.drop (k + 1) by rw [hxk, List.getElem_cons_drop, List.take_append_drop])
      have HX := Lib.hid (show I8 x = (x.toNat : Int) by unfold I8; rfl)
      have hx0 := I8_lo x
      have hx1 := I8_hi x
      clear hx hxk
      cases hz : (x == 0)
      · have hne : (I8 x != 0) = true := by rw [I8_ne0', hz]; rfl
        have HZ := Lib.hid hz
        have hw1 : IntKind.i64.wrap (I8 x) = I8 x := IntWalk.i64_in _ (by omega)
        have hw2 : IntKind.i64.wrap (I8 x - 1) = I8 x - 1 := IntWalk.i64_in _ (by omega)
        have HLT := Lib.hid hlt
        have hT : (l.take k).length ≤ 100 := by rw [List.length_take]; omega
        have HT := Lib.hid hT
        clear hz hT
        go_wp2_with (at_builtin; refine wpList_appS _ rfl _ _ 41 rfl w.heap.size 3 (.int .i64 0) 1 8 Try.underlying41 infoI rfl (by decide) u3 _ _ rfl (World.ownsRow.alloc HW.out _) (some ⟨wr.heap.size, 0, none⟩) 1 1 [.int .i64 (I8 x - 1)] rfl rfl (news_one rfl) (fun h => by cases h) (by simp [Value.oneCell']) (by have := HLL.out; have := HT.out; unfold maxLen; omega) (by have := HLL.out; have := HT.out; omega) (by have := HF.out.size; simp; omega) ?_; intro v' w5 happ; have HA := Lib.hid happ; clear happ)
        go_roundw
        case rel =>
          refine ⟨k + 1, HLT.out, by go_num, ?_, ?_, ?_⟩
          · rw [HTK.out, gapAt_snoc, HG.out, HZ.out]; rfl
          · rw [HTK.out, labs_in HG.out HZ.out, ← HX.out]; simpa using HA.out.own
          · exact (HF.out.alloc _).next HA.out.fr (by intro i hi hlt2; have := (own_lt HW.out (by simpa using hi)).1; omega)
        case measure => have := HLT.out; simp [intOf] <;> omega
      · have hne : (I8 x != 0) = false := by rw [I8_ne0', hz]; rfl
        have HE := Lib.hid (show labsOf l = labsOf (l.take k) by
          conv => lhs; rw [HDR.out]
          exact labs_stop _ HG.out hz)
        clear hz
        go_wp2
        go_ret
        refine ⟨_, rfl, ?_, HF.out⟩
        rw [HE.out]; exact HW.out
    · have HE := Lib.hid (show l.take k = l from List.take_of_length_le (by omega))
      go_wp2
      go_ret
      refine ⟨_, rfl, ?_, HF.out⟩
      have := HW.out
      rw [HE.out] at this
      exact this

def isNode : Value → Bool
  | .agg ⟨[.bool _, .int .i64 _, .int .i64 _, .slice _ _ _, .slice _ _ _]⟩ => true
  | _ => false
theorem isNode_a (b : Bool) (z1 z2 : Int) (a : Option Addr) (n c : Nat) (a' : Option Addr) (n' c' : Nat) : isNode (.agg #[.bool b, .int .i64 z1, .int .i64 z2, .slice a n c, .slice a' n' c']) = true := rfl
theorem node_eq {v : Value} (h : isNode v = true) : v = .agg (vcs v).toArray ∧ (vcs v).toArray.size = 5 ∧ (vcs v).toArray.all (·.oneCell') = true := by
  unfold isNode at h
  split at h
  · exact ⟨rfl, rfl, by simp [vcs, Value.oneCell']⟩
  · cases h
attribute [local go_sem] adr_p vcs_a isAt0_p isNode_a
theorem cell_fr {S : List Nat} {w w' : World} {p : Addr} {v : Value} (h : w.cell? p = some v) (hf : Fr S w w') (hn : p.block ∉ S) : w'.cell? p = some v := hf.cell h hn
theorem cell_set {w : World} {p : Addr} {v : Value} {b' : Nat} {cs : List Value} (h : w.cell? p = some v) (hb : p.block ≠ b') : (w.setCells b' 0 cs).cell? p = some v :=
  (Fr.setCells (S := [b']) (by simp) cs 0 w (Fr.refl _ _)).cell h (by simpa using hb)
theorem nV_dec {l : List UInt8} (h : l.length = 65) (hk : nOk l = true) {x : UInt8} {D : Bool} {S : List UInt8} {LL : List Int} (hx : x = l.getD 0 0) (hD : D = (I8 x != 0)) (hS : S = (l.drop 17).take 48) (hLL : LL = labsOf (nLabs l)) : (⟨D, (nm l 1 4 : Int) - 1, (nm l 5 4 : Int) - 1, LL, S⟩ : NodeV) = nDec l := by
  unfold nOk at hk
  simp only [Bool.and_eq_true, decide_eq_true_eq] at hk
  have h1 := hk.1
  have hn := nm1_byte (l := l) (by omega)
  rw [← hx] at hn
  subst hS hLL
  have e : D = ((nm l 0 1 : Int) == 1) := by
    rw [hD, I8_ne0', hn]
    rw [hn] at h1
    by_cases h0 : x = 0
    · subst h0; rfl
    · have h2 : x.toNat ≠ 0 := fun e => h0 (UInt8.toNat_inj.1 (by rw [e]; rfl))
      have h3 : x.toNat = 1 := by omega
      rw [h3]
      simpa using h0
  rw [e]
  rfl
theorem nOk_fine2 {l : List UInt8} (h : nOk l = true) : nFine (nDec l) = true := by unfold nOk at h; simp only [Bool.and_eq_true] at h; exact h.2.2
theorem ints_own_ {w : World} {B e : Nat} {a : Option Addr} {n cap : Nat} {l : List Int} (h : w.ownsRow B e 1 (.slice a n cap) l.length (l.map (Value.int .i64))) : Ints w a l := by
  obtain ⟨a', cap', e, hb, _⟩ := ints_of_own h
  simp only [Value.slice.injEq] at e
  obtain ⟨rfl, _, rfl⟩ := e
  exact hb
theorem own_setCellsI {B e b n : Nat} {v : Value} {xs : List Value} (hb : ∀ g, v.ownBlock = some g → g ≠ b) {w : World} (vs : List Value) (o : Nat) (h : w.ownsRow B e 1 v n xs) : (w.setCells b o vs).ownsRow B e 1 v n xs :=
  own_fr h (Fr.setCells (S := [b]) (by simp) vs o w (Fr.refl _ _)) (by intro g hg; simp; exact hb g hg)
theorem GotNode.yes2 {B : Nat} {l : List UInt8} {w' : World} {D : Bool} {z1 z2 : Int} {LL : List Int} {S : List UInt8} {la lb : Option Addr} {lc ld : Nat} (hk : nOk l = true) (hd : (⟨D, z1, z2, LL, S⟩ : NodeV) = nDec l)
    (h1 : w'.ownsRow B 3 1 (.slice la LL.length lc) LL.length (LL.map (Value.int .i64))) (h2 : w'.ownsRow B 5 1 (.slice lb S.length ld) S.length (S.map B8))
    (h3 : ∀ g, (Value.slice la LL.length lc).ownBlock = some g → (Value.slice lb S.length ld).ownBlock ≠ some g) :
    GotNode B l (.tuple #[.agg #[.bool D, .int .i64 z1, .int .i64 z2, .slice la LL.length lc, .slice lb S.length ld], .int .i64 0]) w' := by
  unfold GotNode
  rw [if_pos hk, ← hd]
  exact ⟨_, _, rfl, h1, h2, h3⟩
end Go.Proofs.Ytbhmfbhfofgfaaa
