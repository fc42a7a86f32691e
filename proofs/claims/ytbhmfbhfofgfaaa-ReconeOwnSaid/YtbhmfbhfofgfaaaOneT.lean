/- The document's nodes of version 1: the plain law, PutNode. -/
import Derived.Test.YtbhmfbhfofgfaaaOneH
import Derived.Test.YtbhmfbhfofgfaaaOneE
import Derived.Test.YtbhmfbhfofgfaaaOneQ
namespace Go.Proofs.Ytbhmfbhfofgfaaa
open Go.RowKit
attribute [local go_sem ↓] Go.wp_at_zero Go.wp_at_succ
/-- may such a node stand? -/
def noFine (rl pp : Int) (L : List Int) : Bool := inB rl (-1) 2048 && (inB pp (-1) 65536 && labFine L)
def noB (rl pp : Int) (L : List Int) : List UInt8 := by8 4 (rl + 1).toNat ++ by8 4 (pp + 1).toNat ++ labB L
theorem noFine_bd {rl pp : Int} {L : List Int} (h : noFine rl pp L = true) : (-1 ≤ rl ∧ rl < 2048) ∧ (-1 ≤ pp ∧ pp < 65536) ∧ labFine L = true := by
  unfold noFine at h
  simp only [Bool.and_eq_true, inB_iff] at h
  exact h
theorem noB_length {rl pp : Int} {L : List Int} (h : L.length ≤ 8) : (noB rl pp L).length = 16 := by
  unfold noB
  simp only [List.length_append, by8_length, labB_length L h]
theorem noBad (rl pp : Int) (L : List Int) : (okN (okN false rl (-1) 2048) pp (-1) 65536 || !labFine L) = !noFine rl pp L := by
  unfold okN noFine
  cases inB rl (-1) 2048 <;> cases inB pp (-1) 65536 <;> cases labFine L <;> rfl
theorem noU_B {rl pp : Int} {L : List Int} (h : noFine rl pp L = true) : ptrU rl ++ ptrU pp ++ labU L 8 = noB rl pp L := by
  obtain ⟨a, b, c⟩ := noFine_bd h
  unfold noB
  rw [ptrU_in (by omega), ptrU_in (by omega), labU_B c]
set_option maxHeartbeats 1600000 in
theorem refPutNo_no (rl pp : Int) (la : Option Addr) (lc : Nat) (labs : List Int) (w : World) (hl : labs.length ≤ 140737488351300) (hb : Ints w la labs) (h : noFine rl pp labs = false) :
    Calls Try.prog 18 #[.agg #[.int .i64 rl, .int .i64 pp, .slice la labs.length lc]] w fun e w' => ∃ v, e = .returned (.tuple #[v, .int .i64 41]) ∧ Fresh w.heap.size w w' v [] := by
  have H := Lib.hid h
  have HB := Lib.hid hb
  clear h hb
  by_cases h1 : inB rl (-1) 2048 = true
  · by_cases h2 : inB pp (-1) 65536 = true
    · have h3 : labFine labs = false := by
        have := H.out
        unfold noFine at this
        rw [h1, h2] at this
        simpa using this
      have hlb : ∀ w, Ints w la labs → Calls Try.prog 38 #[.slice la labs.length lc] w fun e w' => e = .returned (.bool false) ∧ Fr [] w w' := fun w hw => by
        have := LabelsRight_any la lc labs w hl hw
        rwa [h3] at this
      have HLB := Lib.hid hlb
      clear hlb h3
      go_enter Try.func18, Try.ntmps18
      go_wp2_with (first
        | (go_at_call 29; refine (In_any _ _ _ _).mono ?_; rintro e w1 ⟨rfl, rfl⟩)
        | (go_at_call 38; refine (HLB.out _ (HB.out.keep ((Fr.refl _ _).alloc _))).mono ?_; rintro e w1 ⟨rfl, hf1⟩))
      go_ret2
      exact ⟨_, rfl, fresh_empty rfl (((Fr.refl _ _).alloc _).trans hf1)⟩
    · have h2 : inB pp (-1) 65536 = false := by simpa using h2
      go_enter Try.func18, Try.ntmps18
      go_wp2_with (go_at_call 29; refine (In_any _ _ _ _).mono ?_; rintro e w1 ⟨rfl, rfl⟩)
      go_ret2
      exact ⟨_, rfl, fresh_empty (by simp) ((Fr.refl _ _).alloc _)⟩
  · have h1 : inB rl (-1) 2048 = false := by simpa using h1
    go_enter Try.func18, Try.ntmps18
    go_wp2_with (go_at_call 29; refine (In_any _ _ _ _).mono ?_; rintro e w1 ⟨rfl, rfl⟩)
    go_ret2
    exact ⟨_, rfl, fresh_empty (by simp) ((Fr.refl _ _).alloc _)⟩
theorem nol2 {w : World} {b T : Nat} {c0 c1 c2 : Value} (h : w.heap[b]? = some (.cells #[c0, c1, c2] T)) : w.cell? ⟨b, 0, none⟩ = some c0 ∧ w.cell? ⟨b, 1, none⟩ = some c1 :=
  ⟨cell_of_row _ _ 0 _ _ _ h, cell_of_row _ _ 1 _ _ _ h⟩
set_option maxRecDepth 100000 in
set_option maxHeartbeats 3200000 in
theorem refPutNo_yes (rl pp : Int) (la : Option Addr) (lc : Nat) (labs : List Int) (w : World) (hb : Ints w la labs) (h : noFine rl pp labs = true) :
    Calls Try.prog 18 #[.agg #[.int .i64 rl, .int .i64 pp, .slice la labs.length lc]] w fun e w' => ∃ v, e = .returned (.tuple #[v, .int .i64 0]) ∧ Fresh w.heap.size w w' v (noB rl pp labs) := by
  obtain ⟨⟨a1, a2⟩, ⟨b1, b2⟩, h3⟩ := noFine_bd h
  have k1 := inB_true a1 a2
  have k2 := inB_true b1 b2
  obtain ⟨lr, l8⟩ := labFine_bd h3
  have hl : labs.length ≤ 140737488351300 := by omega
  have hlb : ∀ w, Ints w la labs → Calls Try.prog 38 #[.slice la labs.length lc] w fun e w' => e = .returned (.bool true) ∧ Fr [] w w' := fun w hw => by
    have := LabelsRight_any la lc labs w hl hw
    rwa [h3] at this
  have HLB := Lib.hid hlb
  clear hlb h3
  have HLR := Lib.hid lr
  have HB := Lib.hid hb
  clear h lr hb
  go_enter Try.func18, Try.ntmps18
  go_upto_region 3 with (first
    | (go_at_call 29; refine (In_any _ _ _ _).mono ?_; rintro e w1 ⟨rfl, rfl⟩)
    | (go_at_call 38; refine (HLB.out _ (HB.out.keep ((Fr.refl _ _).alloc _))).mono ?_; rintro e w1 ⟨rfl, hf1⟩))
  have hba := hf1.obj (heap_alloc_new w (.cells #[.int .i64 rl, .int .i64 pp, .slice la labs.length lc] 43)) (by simp)
  have HF1 := Lib.hid (((Fr.refl [] w).alloc _).trans hf1)
  have HBA := Lib.hid hba
  have HP1 := Lib.hid (fun w => Ptr_any rl w a1 (by omega))
  have HP2 := Lib.hid (fun w => Ptr_any pp w b1 (by omega))
  clear hf1 k1 k2
  have hbd : w1.drew.heap[w.heap.size]? = some (.cells #[.int .i64 rl, .int .i64 pp, .slice la labs.length lc] 43) := hba
  clear hba
  go_cut [4] (fun v wx => Grow [] w1 wx v (by8 4 (rl + 1).toNat ++ by8 4 (pp + 1).toNat))
  case first =>
    go_region_held3 (fun w' => w'.cell? ⟨w.heap.size, 0, none⟩ = some (.int .i64 rl) ∧ w'.cell? ⟨w.heap.size, 1, none⟩ = some (.int .i64 pp))
      (first
        | with_reducible assumption
        | exact nol2 hbd
        | exact nol2 (hA.fr.obj hbd (by simp))
        | exact nol2 (hB.fr.obj hbd (by simp))
        | exact nol2 (hB.fr.obj (hA.fr.obj hbd (by simp)) (by simp))
        | exact nol2 (hA.fr.obj (hB.fr.obj hbd (by simp)) (by simp))
        | exact nol2 (hC.fr.obj hbd (by simp)))
      (first
        | (go_at_call 32; with_reducible (refine (HP1.out _).mono ?_); rintro e wA ⟨vA, rfl, hA⟩)
        | (go_at_call 32; with_reducible (refine (HP2.out _).mono ?_); rintro e wB ⟨vB, rfl, hB⟩)
        | (go_at_call 30; refine (Joined_fresh w1.drew wA wB vA vB _ _ hA.grow hB (by rw [by8_length, by8_length]; decide)).mono ?_; rintro e wC ⟨vC, rfl, hC⟩)
)
    all_goals go_wp2_with fail
    all_goals go_meet
    all_goals exact ⟨hC.own, hC.nil, hC.off, (Fr.refl [] w1).drew.trans hC.fr⟩
  case rest =>
    have HG := Lib.hid hcut
    have x2 := cell_of_row wc _ 2 _ _ _ (hcut.fr.obj HBA.out (by simp))
    clear hcut hbd
    go_wp2_with fail
    refine (LabelBytes_any la lc labs wc l8 HLR.out ((HB.out.keep HF1.out).keep HG.out.fr)).mono ?_
    rintro e w3 ⟨y3, rfl, hp3⟩
    have HJ := Lib.hid (Joined_fresh w1 wc w3 u4 y3 _ _ HG.out hp3 (by rw [List.length_append, by8_length, by8_length, labB_length labs l8]; decide))
    clear hp3 x2
    go_wp2_with fail
    refine HJ.out.mono ?_
    rintro e w4 ⟨v4, rfl, h4⟩
    have H4 := Lib.hid h4
    clear h4
    go_wp2
    go_ret2
    exact ⟨v4, rfl, H4.out.fresh.base HF1.out HF1.out.size⟩
/-- what the document's PutNode gives -/
def RefPutN (w w' : World) (e : Ending) (rl pp : Int) (L : List Int) : Prop :=
  (noFine rl pp L = true ∧ ∃ v, e = .returned (.tuple #[v, .int .i64 0]) ∧ Fresh w.heap.size w w' v (noB rl pp L)) ∨ (noFine rl pp L = false ∧ ∃ v, e = .returned (.tuple #[v, .int .i64 41]) ∧ Fresh w.heap.size w w' v [])
theorem refPutNo_any (rl pp : Int) (la : Option Addr) (lc : Nat) (labs : List Int) (w : World) (hl : labs.length ≤ 140737488351300) (hb : Ints w la labs) :
    Calls Try.prog 18 #[.agg #[.int .i64 rl, .int .i64 pp, .slice la labs.length lc]] w fun e w' => RefPutN w w' e rl pp labs := by
  cases h : noFine rl pp labs
  · exact (refPutNo_no rl pp la lc labs w hl hb h).mono fun _ _ hx => .inr ⟨h, hx⟩
  · exact (refPutNo_yes rl pp la lc labs w hb h).mono fun _ _ hx => .inl ⟨h, hx⟩
/-! the node that sixteen bytes are -/
def noOk (l : List UInt8) : Bool := gapOk (l.drop 8) && noFine (nm l 0 4 - 1) (nm l 4 4 - 1) (labsOf (l.drop 8))
theorem noB_dec {l : List UInt8} (h : l.length = 16) (hk : gapOk (l.drop 8) = true) : noB (nm l 0 4 - 1) (nm l 4 4 - 1) (labsOf (l.drop 8)) = l := by
  unfold noB
  simp only [show ∀ n : Nat, ((n : Int) - 1 + 1).toNat = n from fun n => by omega]
  rw [by8_nm l 0 4 (by omega), by8_nm l 4 4 (by omega), labB_labsOf (by rw [List.length_drop]; omega) hk]
  have e1 := List.take_append_drop 4 (l.drop 0)
  have e2 := List.take_append_drop 4 (l.drop 4)
  rw [List.drop_drop] at e1 e2
  rw [List.append_assoc, e2, e1, List.drop_zero]
theorem labB_gap {L : List Int} (h : labFine L = true) : gapOk (labB L) = true := gapOk_labB (labFine_bd h).1
theorem noB_eq {l : List UInt8} (h : l.length = 16) (hf : noFine (nm l 0 4 - 1) (nm l 4 4 - 1) (labsOf (l.drop 8)) = true) : (noB (nm l 0 4 - 1) (nm l 4 4 - 1) (labsOf (l.drop 8)) == l) = gapOk (l.drop 8) := by
  obtain ⟨_, _, c⟩ := noFine_bd hf
  cases hg : gapOk (l.drop 8)
  · rw [beq_eq_false_iff_ne]
    intro e
    have h1 : (noB (nm l 0 4 - 1) (nm l 4 4 - 1) (labsOf (l.drop 8))).drop 8 = labB (labsOf (l.drop 8)) := by
      unfold noB
      rw [List.drop_left' (by simp only [List.length_append, by8_length])]
    rw [e] at h1
    have h2 := labB_gap c
    rw [← h1, hg] at h2
    cases h2
  · rw [beq_iff_eq]
    exact noB_dec h hg
theorem no_nm {rl pp : Int} {L : List Int} (h : noFine rl pp L = true) : (nm (noB rl pp L) 0 4 : Int) - 1 = rl ∧ (nm (noB rl pp L) 4 4 : Int) - 1 = pp ∧ (noB rl pp L).drop 8 = labB L := by
  obtain ⟨a, b, c⟩ := noFine_bd h
  have n1 : nm (noB rl pp L) 0 4 = (rl + 1).toNat := nm_of _ [] (by8 4 (pp + 1).toNat ++ labB L) _ 0 4 (by unfold noB; simp) rfl (by omega)
  have n2 : nm (noB rl pp L) 4 4 = (pp + 1).toNat := nm_of _ (by8 4 (rl + 1).toNat) (labB L) _ 4 4 (by unfold noB; simp) (by8_length ..) (by omega)
  refine ⟨by rw [n1]; omega, by rw [n2]; omega, ?_⟩
  unfold noB
  rw [List.drop_left' (by simp only [List.length_append, by8_length])]
theorem noOk_noB {rl pp : Int} {L : List Int} (h : noFine rl pp L = true) : noOk (noB rl pp L) = true ∧ labsOf ((noB rl pp L).drop 8) = L := by
  obtain ⟨h1, h2, h3⟩ := no_nm h
  obtain ⟨_, _, c⟩ := noFine_bd h
  have h4 := labsOf_labB (labFine_bd c).1
  unfold noOk
  rw [h1, h2, h3, h4]
  exact ⟨by rw [labB_gap c, h]; rfl, rfl⟩
end Go.Proofs.Ytbhmfbhfofgfaaa
