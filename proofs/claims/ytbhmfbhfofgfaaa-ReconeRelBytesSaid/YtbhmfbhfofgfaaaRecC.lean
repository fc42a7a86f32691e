/- The walks of the document's helpers for records: pieces joined, pointers, numbers at a place. -/
import Derived.Test.YtbhmfbhfofgfaaaRecB
namespace Go.Proofs.Ytbhmfbhfofgfaaa
open Go.RowKit

set_option maxHeartbeats 400000 in
theorem Joined_grow (K : List Nat) (w0 w : World) (v : Value) (l : List UInt8) (a : Option Addr) (c : Nat) (m : List UInt8) (hg : Grow K w0 w v l) (hb : Bytes w a m) (hK : m = [] ∨ ∀ ad, a = some ad → v.ownBlock ≠ some ad.block ∧ ad.block < w.heap.size) (hroom : l.length + m.length ≤ 140737488351300) :
    Calls Try.prog 30 #[v, .slice a m.length c] w fun e w' => ∃ v', e = .returned v' ∧ Grow K w0 w' v' (l ++ m) ∧ Fr v.ownBlock.toList w w' ∧ (v'.ownBlock = v.ownBlock ∨ ∃ g, v'.ownBlock = some g ∧ w.heap.size ≤ g) := by
  have HG := Lib.hid hg
  have HB := Lib.hid hb
  have HK := Lib.hid hK
  clear hg hb hK
  go_enter Try.func30, Try.ntmps30
  go_wp2_with fail
  go_loopw [0, 5] (fun u i wr => ∃ k : Nat, k ≤ m.length ∧ i = .int .i64 k ∧ Grow K w0 wr u (l ++ m.take k) ∧ Fr v.ownBlock.toList w wr ∧ (u.ownBlock = v.ownBlock ∨ ∃ g, u.ownBlock = some g ∧ w.heap.size ≤ g)) (fun _ i _ => m.length - (intOf i).toNat)
  case atStart => exact ⟨0, by omega, rfl, by simpa using HG.out, Fr.refl _ _, .inl rfl⟩
  case round =>
    obtain ⟨k, hk, rfl, hgr, hf, hbl⟩ := hrel
    have HR := Lib.hid hgr
    have HF := Lib.hid hf
    have HBL := Lib.hid hbl
    clear hgr hf hbl
    by_cases hlt : k < m.length
    · obtain ⟨b, off, rfl, hc⟩ := HB.out.at (by omega)
      have hof := HK.out.resolve_left (by rintro rfl; simp at hlt) _ rfl
      have hcell : wr.cell? ⟨b, off + k, none⟩ = some (.int .u8 (I8 (m.getD k 0))) := HF.out.cell (hc k hlt) (by simp [hof.1])
      clear hc
      obtain ⟨x, hx⟩ : ∃ x, x = m.getD k 0 := ⟨_, rfl⟩
      rw [← hx] at hcell
      have HX := Lib.hid hx; clear hx
      have HT := Lib.hid (show (l ++ m.take k).length = l.length + k by rw [List.length_append, List.length_take]; omega)
      go_wp2_with (at_builtin; refine wpList_apB _ rfl _ _ 27 rfl w0.heap.size 5 Try.underlying27 info8 u0 (l ++ m.take k) rfl (HR.out.alloc _).own (some ⟨wr.heap.size, 0, none⟩) 1 1 [x] rfl rfl (Bytes.one x rfl) (fun h => by cases h) (by rw [HT.out]; omega) (HR.out.alloc _).size ?_; intro v' w1 happ; have HA := Lib.hid happ; clear happ)
      go_roundw
      case rel =>
        have ha := HA.out
        refine ⟨k + 1, by omega, by go_num, ?_, ?_, ?_⟩
        · have e : l ++ m.take (k + 1) = l ++ m.take k ++ [x] := by
            rw [take_snoc m k hlt, HX.out, ← List.append_assoc]; simp [List.getD, hlt]
          rw [e]
          exact (HR.out.alloc _).app ha
        · refine (HF.out.alloc _).next ha.fr fun i hi hlt2 => ?_
          rcases HBL.out with h | ⟨g, h, hg⟩
          · rw [h] at hi; exact hi
          · rw [h] at hi; simp at hi; omega
        · rcases ha.blk with h | ⟨g, h, hg⟩
          · rw [h]; exact HBL.out
          · exact .inr ⟨g, h, by have := HF.out.size; simp at hg; omega⟩
      case measure => simp [intOf] <;> omega
    · have HE := Lib.hid (show m.take k = m from List.take_of_length_le (by omega))
      go_wp2
      go_ret
      have := HR.out
      rw [HE.out] at this
      exact ⟨_, rfl, this, HF.out, HBL.out⟩
/-- .. onto what is known to grow, from new memory -/
theorem Joined_fresh (w0 w w1 : World) (v x : Value) (l m : List UInt8) (hg : Grow [] w0 w v l) (hx : Fresh w.heap.size w w1 x m) (hroom : l.length + m.length ≤ 140737488351300) :
    Calls Try.prog 30 #[v, x] w1 fun e w' => ∃ v', e = .returned v' ∧ Grow [] w0 w' v' (l ++ m) := by
  obtain ⟨g, cap, rfl, hgl, hlt, hb, hf⟩ := hx.bytes
  refine (Joined_grow [] w0 w1 v l _ cap m (hg.fr0 hf) hb (.inr fun ad e => by
    cases e
    exact ⟨fun e => by have h2 : g < w.heap.size := (own_lt hg.own e).2; omega, hlt⟩) hroom).mono ?_
  rintro e w' ⟨v', rfl, h, _⟩
  exact ⟨v', rfl, h⟩
theorem Ptr_any (z : Int) (w : World) (h0 : -1 ≤ z) (h1 : z ≤ 4294967294) :
    Calls Try.prog 32 #[.int .i64 z] w fun e w' => ∃ v, e = .returned v ∧ Fresh w.heap.size w w' v (by8 4 (z + 1).toNat) := by
  have hwr : IntKind.u64.wrap (z + 1) = z + 1 := wrapU_int _ (by omega) (by omega)
  go_enter Try.func32, Try.ntmps32
  go_wp2_with fail
  refine (refnum_int 4 (z + 1) w (by unfold Wd; omega) (by omega) (by omega)).mono ?_
  rintro e w' ⟨v, rfl, h⟩
  go_wp2
  go_ret
  exact ⟨v, rfl, h⟩
theorem at12_any (a : Option Addr) (c : Nat) (l : List UInt8) (wd p : Nat) (w : World) (hl : l.length ≤ 140737488351300) (hc : l.length ≤ c) (hb : Bytes w a l) (hw : Wd wd) (hwd : wd ≤ 4) (h : p + wd ≤ l.length) :
    Calls Try.prog 35 #[.slice a l.length c, .int .i64 p, .int .i64 wd] w fun e w' => e = .returned (.int .i64 (nm l p wd)) ∧ w = w' := by
  have hle := hw.le
  obtain ⟨b, off, rfl, _⟩ := hb.at (by omega)
  have HL := Lib.hid (show ((l.drop p).take wd).length = wd by rw [List.length_take, List.length_drop]; omega)
  have hn := nm_le l p wd hwd
  have hwi : IntKind.i64.wrap (U (nm l p wd)) = (nm l p wd : Int) := U_int _ (by omega)
  rw [nm_def] at hwi
  have HN := Lib.hid (nm_def l p wd)
  clear hn
  go_enter Try.func35, Try.ntmps35
  go_wp2_with fail
  have hnum := val_any (some ⟨b, off + p, none⟩) (c - p) ((l.drop p).take wd) w (by rw [HL.out]; omega) (hb.sub p wd h)
  rw [HL.out] at hnum
  refine hnum.mono ?_
  rintro e w' ⟨rfl, rfl⟩
  go_wp2
  go_ret
  exact ⟨by rw [HN.out]; rfl, rfl⟩
end Go.Proofs.Ytbhmfbhfofgfaaa
