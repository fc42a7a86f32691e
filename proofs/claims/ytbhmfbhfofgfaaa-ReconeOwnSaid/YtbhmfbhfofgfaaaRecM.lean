/- Labels: the walks that check them and write them. -/
import Derived.Test.YtbhmfbhfofgfaaaRecK
import Derived.BigQuiet
import Derived.Deep.QuietTactic
namespace Go.Proofs.Ytbhmfbhfofgfaaa
open Go.RowKit
attribute [local go_sem ↓] Go.wp_at_zero Go.wp_at_succ
/-- labels that rise, each in its range -/
def chain : Int → List Int → Bool
  | _, [] => true
  | last, x :: r => inB x (last + 1) 200 && chain x r
def labFine (l : List Int) : Bool := chain (-1) l && decide (l.length ≤ 8)
/-- the label ahead of number k -/
def prev (l : List Int) : Nat → Int
  | 0 => -1
  | k + 1 => l.getD k 0
theorem drop_cons (l : List Int) (k : Nat) (h : k < l.length) : l.drop k = l.getD k 0 :: l.drop (k + 1) := by
  rw [List.drop_eq_getElem_cons h]; simp [List.getD, h]
theorem chain_step (l : List Int) (k : Nat) (h : k < l.length) : chain (prev l k) (l.drop k) = (inB (l.getD k 0) (prev l k + 1) 200 && chain (prev l (k + 1)) (l.drop (k + 1))) := by
  rw [drop_cons l k h]; rfl
theorem chain_end (last : Int) (l : List Int) (k : Nat) (h : l.length ≤ k) : chain last (l.drop k) = true := by
  rw [List.drop_eq_nil_of_le h]; rfl
theorem chain_bd : ∀ (l : List Int) (last : Int), -1 ≤ last → chain last l = true → ∀ x ∈ l, 0 ≤ x ∧ x < 200
  | [], _, _, _, x, hx => by cases hx
  | y :: l, last, hl, h, x, hx => by
    unfold chain at h
    rw [Bool.and_eq_true, inB_iff] at h
    rcases List.mem_cons.1 hx with rfl | hx
    · omega
    · exact chain_bd l y (by omega) h.2 x hx
theorem labFine_bd {l : List Int} (h : labFine l = true) : (∀ x ∈ l, 0 ≤ x ∧ x < 200) ∧ l.length ≤ 8 := by
  unfold labFine at h
  rw [Bool.and_eq_true, decide_eq_true_eq] at h
  exact ⟨chain_bd l (-1) (by omega) h.1, h.2⟩
theorem len_le8 (n : Nat) : decide (n ≤ 8) = decide ((n : Int) ≤ 8) := by
  by_cases h : n ≤ 8
  · rw [decide_eq_true h, decide_eq_true (by omega)]
  · rw [decide_eq_false h, decide_eq_false (by omega)]
/-- a label's byte -/
def labByte (x : Int) : UInt8 := UInt8.ofNat (x + 1).toNat
/-- the eight bytes of labels -/
def labB (l : List Int) : List UInt8 := l.map labByte ++ List.replicate (8 - l.length) 0
theorem labB_length (l : List Int) (h : l.length ≤ 8) : (labB l).length = 8 := by unfold labB; rw [List.length_append, List.length_map, List.length_replicate]; omega
theorem wrap_lab (x : Int) (h : 0 ≤ x) (h2 : x < 200) : IntKind.u8.wrap (x + 1) = I8 (labByte x) := by
  unfold labByte
  rw [I8_of_nat _ (by omega), wrap8_in _ (by omega) (by omega)]
  omega
/-- some of the eight bytes -/
def labTo (l : List Int) (k : Nat) : List UInt8 := (l.take k).map labByte ++ List.replicate (k - l.length) 0
theorem labTo_in (l : List Int) (k : Nat) (h : k < l.length) : labTo l (k + 1) = labTo l k ++ [labByte (l.getD k 0)] := by
  unfold labTo
  rw [take_snoc l k h, List.map_append, show k + 1 - l.length = 0 by omega, show k - l.length = 0 by omega]
  simp [List.getD, h]
theorem labTo_out (l : List Int) (k : Nat) (h : l.length ≤ k) : labTo l (k + 1) = labTo l k ++ [0] := by
  unfold labTo
  rw [List.take_of_length_le (by omega), List.take_of_length_le h, show k + 1 - l.length = (k - l.length) + 1 by omega, List.replicate_succ', List.append_assoc]
theorem labTo_8 (l : List Int) (h : l.length ≤ 8) : labTo l 8 = labB l := by
  unfold labTo labB; rw [List.take_of_length_le h]
theorem labTo_length (l : List Int) (k : Nat) : (labTo l k).length = k := by
  unfold labTo; rw [List.length_append, List.length_map, List.length_take, List.length_replicate]; omega
set_option maxHeartbeats 800000 in
theorem LabelBytes_any (a : Option Addr) (c : Nat) (l : List Int) (w : World) (hl : l.length ≤ 8) (hr : ∀ x ∈ l, 0 ≤ x ∧ x < 200) (hb : Ints w a l) :
    Calls Try.prog 39 #[.slice a l.length c] w fun e w' => ∃ v, e = .returned v ∧ Fresh w.heap.size w w' v (labB l) := by
  have HR := Lib.hid hr
  have HB := Lib.hid hb
  clear hr hb
  have I0 : I8 0 = 0 := by decide +kernel
  have HI := Lib.hid I0
  clear I0
  go_enter Try.func39, Try.ntmps39
  go_wp2_with fail
  go_loopw [3, 4, 5] (fun v i _ wr => ∃ k : Nat, k ≤ 8 ∧ i = .int .i64 k ∧ Grow [] w wr v (labTo l k)) (fun _ i _ _ => 8 - (intOf i).toNat)
  case atStart => exact ⟨0, by omega, rfl, ⟨by rw [show labTo l 0 = [] by simp [labTo]]; exact own_empty w 5, by simp, fun _ h => (List.not_mem_nil h).elim, (Fr.refl _ _).alloc _⟩⟩
  case round =>
    obtain ⟨k, hk, rfl, hgr⟩ := hrel
    have HG := Lib.hid hgr; clear hgr
    by_cases hlt : k < 8
    · have HT := Lib.hid (labTo_length l k)
      by_cases hin : k < l.length
      · obtain ⟨b, off, rfl, hc⟩ := HB.out.at (by omega)
        have hcell : wr.cell? ⟨b, off + k, none⟩ = some (.int .i64 (l.getD k 0)) := HG.out.fr.cell (hc k hin) (by simp)
        have HX := Lib.hid (labTo_in l k hin)
        have hbd : 0 ≤ l.getD k 0 ∧ l.getD k 0 < 200 := by
          have := HR.out l[k] (List.getElem_mem hin)
          simpa [List.getD, hin] using this
        clear hc
        generalize l.getD k 0 = x at hcell HX hbd
        obtain ⟨x1, x2⟩ := hbd
        have hwl := wrap_lab x x1 x2
        go_wp2_with (at_builtin; refine wpList_apB _ rfl _ _ 27 rfl w.heap.size 5 Try.underlying27 info8 u3 (labTo l k) rfl (HG.out.alloc _).own (some ⟨wr.heap.size, 0, none⟩) 1 1 [labByte x] rfl rfl (Bytes.one (labByte x) rfl) (fun h => by cases h) (by rw [HT.out]; omega) (HG.out.alloc _).size ?_; intro v' w1 happ; have HA := Lib.hid happ; clear happ)
        go_roundw
        case rel => exact ⟨k + 1, by omega, by go_num, by rw [HX.out]; exact (HG.out.alloc _).app HA.out⟩
        case measure => simp [intOf] <;> omega
      · have HX := Lib.hid (labTo_out l k (by omega))
        have hni : ¬ (k : Int) < (l.length : Int) := by omega
        go_wp2_with (at_builtin; refine wpList_apB _ rfl _ _ 27 rfl w.heap.size 5 Try.underlying27 info8 u3 (labTo l k) rfl (HG.out.alloc _).own (some ⟨wr.heap.size, 0, none⟩) 1 1 [0] rfl rfl (by rw [← HI.out]; exact Bytes.one 0 rfl) (fun h => by cases h) (by rw [HT.out]; omega) (HG.out.alloc _).size ?_; intro v' w1 happ; have HA := Lib.hid happ; clear happ)
        go_roundw
        case rel => exact ⟨k + 1, by omega, by go_num, by rw [HX.out]; exact (HG.out.alloc _).app HA.out⟩
        case measure => simp [intOf] <;> omega
    · have HE := Lib.hid (show k = 8 by omega)
      go_wp2_with fail
      go_ret
      have h := HG.out
      rw [HE.out, labTo_8 l hl] at h
      exact ⟨_, rfl, h.fresh⟩
end Go.Proofs.Ytbhmfbhfofgfaaa
