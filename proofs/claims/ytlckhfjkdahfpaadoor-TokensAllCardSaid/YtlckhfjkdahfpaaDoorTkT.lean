/- Tokens: one call on both tables (step). -/
import Derived.Test.YtlckhfjkdahfpaaDoorTkR
import Derived.Test.YtlckhfjkdahfpaaDoorAndM
import Derived.Test.YtlckhfjkdahfpaaDoorSpoil
namespace Go.Proofs.YtlckhfjkdahfpaaDoor
open Go.RowKit Go.Maps
attribute [local go_sem ↓] Go.wp_at_zero Go.wp_at_succ
attribute [local go_sem] Oper.semAt_some
/-- the program's table and the document's, apart from each other -/
structure TkPair (B C : Nat) (w : World) (t q : Nat) (bs cs : List Nat) (kd vr : Nat) (N : Nms) : Prop where
  f : TB B bs w t kd vr N
  m : MT C cs w q kd vr N
  ap : ∀ i ∈ bs, i ∉ cs
theorem TkPair.keep {B C t q : Nat} {bs cs : List Nat} {kd vr : Nat} {N : Nms} {w w' : World} (h : TkPair B C w t q bs cs kd vr N) (hf : Fr [] w w') : TkPair B C w' t q bs cs kd vr N := ⟨h.f.keep hf, h.m.keep hf, h.ap⟩
theorem TkPair.prog {B C t q : Nat} {bs cs bs' : List Nat} {kd vr : Nat} {N : Nms} {w w1 : World} (h : TkPair B C w t q bs cs kd vr N) (hs : Stp bs w bs' w1) : MT C cs w1 q kd vr N ∧ ∀ i ∈ bs', i ∉ cs :=
  ⟨h.m.fr hs.1 fun i hi hm => h.ap i hm hi, hs.apart h.ap fun i hi => (h.m.lt i hi).2⟩
theorem TkPair.doc {B C t q : Nat} {cs bs' cs' : List Nat} {kd vr : Nat} {N1 : Nms} {w1 w2 : World} (h1 : TB B bs' w1 t kd vr N1) (ap : ∀ i ∈ bs', i ∉ cs) (h2 : MT C cs' w2 q kd vr N1) (hs : Stp cs w1 cs' w2) : TkPair B C w2 t q bs' cs' kd vr N1 :=
  ⟨h1.fr hs.1 ap, h2, hs.apart' ap fun i hi => (h1.lt i hi).2⟩
/-- what one call leaves -/
def TkPairG (B C t q : Nat) (bs cs : List Nat) (kd vr : Nat) (w w' : World) : Prop := ∃ bs' cs' N', TkPair B C w' t q bs' cs' kd vr N' ∧ Stp (bs ++ cs) w (bs' ++ cs') w'
theorem TkPairG.same {B C t q : Nat} {bs cs : List Nat} {kd vr : Nat} {N : Nms} {w w' : World} (h : TkPair B C w t q bs cs kd vr N) (hf : Fr [] w w') : TkPairG B C t q bs cs kd vr w w' := ⟨bs, cs, N, h.keep hf, hf.mono (by simp), fun _ hi => .inl hi⟩
theorem stp_both {bs cs bs' cs' : List Nat} {w w1 w2 : World} (h1 : Stp bs w bs' w1) (h2 : Stp cs w1 cs' w2) : Stp (bs ++ cs) w (bs' ++ cs') w2 := by
  refine ⟨(h1.1.mono fun i hi _ => List.mem_append_left _ hi).next h2.1 fun i hi _ => List.mem_append_right _ hi, fun i hi => ?_⟩
  rcases List.mem_append.1 hi with hi | hi
  · rcases h1.2 i hi with h | h
    · exact .inl (List.mem_append_left _ h)
    · exact .inr h
  · rcases h2.2 i hi with h | h
    · exact .inl (List.mem_append_right _ h)
    · exact .inr (Nat.le_trans h1.1.size h)
theorem frNewT {w w1 w2 : World} {S : List Nat} (h1 : Fr [] w w1) (h2 : Fr S w1 w2) (hS : ∀ i ∈ S, w.heap.size ≤ i) : Fr [] w w2 := h1.next h2 fun i hi hlt => by have := hS i hi; omega
theorem findZ_some {N : Nms} {l : List UInt8} {i : Nat} (h : findN N l = some i) : findZ N l = i := by unfold findZ; rw [h]
theorem findZ_none {N : Nms} {l : List UInt8} (h : findN N l = none) : findZ N l = -1 := by unfold findZ; rw [h]
theorem findN_lt {N : Nms} {s : List UInt8} {i : Nat} (h : findN N s = some i) : i < N.length := getD_ne (by rw [(findN_some h).2]; exact (findN_some h).1)
set_option maxRecDepth 100000 in
set_option maxHeartbeats 6400000 in
theorem step11 (B C : Nat) (bs cs : List Nat) (w : World) (t q kd vr : Nat) (N : Nms) (ok oid : Int) (od : List UInt8) (h : TkPair B C w t q bs cs kd vr N) (hol : od.length ≤ 140737488351232) (hkd : kd ≤ 255) (hvr : vr ≤ 255) (hn : Nib w) :
    Calls Tryd.prog 20 #[.pointer (some ⟨t, 0, none⟩), .pointer (some ⟨q, 0, none⟩), .agg #[.int .i64 ok, .int .i64 oid, .string ⟨od.toArray⟩]] w fun e w' => e = .returned (.bool true) ∧ TkPairG B C t q bs cs kd vr w w' := by
  have HN := Lib.hid hn
  have HH := Lib.hid h
  obtain ⟨j, hj, ej⟩ := mask7 ok
  obtain ⟨S, hS⟩ : ∃ S, S = ByteArray.mk od.toArray := ⟨_, rfl⟩
  rw [← hS]
  obtain ⟨wb, hwb⟩ : ∃ wb, wb = w.alloc (.cells #[.int .i64 ok, .int .i64 oid, .string S] 47) := ⟨_, rfl⟩
  have hbx : wb.heap[w.heap.size]? = some (.cells #[.int .i64 ok, .int .i64 oid, .string S] 47) := by rw [hwb]; exact heap_alloc_new w _
  have hfb : Fr [] w wb := by rw [hwb]; exact (Fr.refl _ _).alloc _
  have HBX := Lib.hid hbx
  have HFB := Lib.hid hfb
  have HB := Lib.hid (h.keep hfb)
  obtain ⟨b0, b1, b2⟩ := trioT hbx
  have HWB := Lib.hid hwb
  have HLT : Hid (∀ i ∈ bs ++ cs, i < w.heap.size) := Lib.hid fun i hi => by
    rcases List.mem_append.1 hi with hi | hi
    · exact (h.f.lt i hi).2
    · exact (h.m.lt i hi).2
  have hbb : w.heap.size ∉ bs := fun hm => by have := HLT.out _ (List.mem_append_left _ hm); omega
  have hbc : w.heap.size ∉ cs := fun hm => by have := HLT.out _ (List.mem_append_right _ hm); omega
  have HBB := Lib.hid hbb
  have HBC := Lib.hid hbc
  have HIT : Hid (∀ W, Fr [] wb W → Calls Tryd.prog 11 #[.pointer (some ⟨t, 0, none⟩), .string S] W fun e w' => e = .returned (.tuple #[.int .i64 (internI N od : Nat), .int .i64 (internE N od)]) ∧ ∃ bs', TB B bs' w' t kd vr (internS N od) ∧ Stp bs W bs' w') := Lib.hid fun W hW => by rw [hS]; exact Intern_T B bs W t kd vr N od (HB.out.f.keep hW) (by omega)
  have HIQ : Hid (∀ W, MT C cs W q kd vr N → Calls Tryd.prog 42 #[.pointer (some ⟨q, 0, none⟩), .string S] W fun e w' => e = .returned (.tuple #[.int .i64 (internI N od : Nat), .int .i64 (internE N od)]) ∧ ∃ cs', MT C cs' w' q kd vr (internS N od) ∧ Stp cs W cs' w') := Lib.hid fun W hW => by rw [hS]; exact Intern_Q C cs W q kd vr N od hW (by omega)
  have HFT : Hid (∀ W, Fr [] wb W → Calls Tryd.prog 15 #[.pointer (some ⟨t, 0, none⟩), .string S] W fun e w' => e = .returned (.tuple #[.int .i64 ((findN N od).getD 0 : Nat), .bool (findN N od).isSome]) ∧ W = w') := Lib.hid fun W hW => by rw [hS]; exact Find_T B bs W t kd vr N od (HB.out.f.keep hW) (by omega)
  have HFQ : Hid (∀ W, Fr [] wb W → Calls Tryd.prog 43 #[.pointer (some ⟨q, 0, none⟩), .string S] W fun e w' => e = .returned (.int .i64 (findZ N od)) ∧ W = w') := Lib.hid fun W hW => by rw [hS]; exact Find_Q C cs W q kd vr N od (HB.out.m.keep hW)
  have HNT : Hid (∀ W, Fr [] wb W → Calls Tryd.prog 14 #[.pointer (some ⟨t, 0, none⟩), .int .i64 oid] W fun e w' => e = .returned (.tuple #[Str (nameN N oid), .bool (nameN N oid != [])]) ∧ W = w') := Lib.hid fun W hW => Name_T B bs W t kd vr N oid (HB.out.f.keep hW)
  have HNQ : Hid (∀ W, Fr [] wb W → Calls Tryd.prog 44 #[.pointer (some ⟨q, 0, none⟩), .int .i64 oid] W fun e w' => e = .returned (Str (nameN N oid)) ∧ W = w') := Lib.hid fun W hW => Name_Q C cs W q kd vr N oid (HB.out.m.keep hW)
  clear h hn hwb hbx hfb hS hbb hbc
  go_enter Tryd.func20, Tryd.ntmps20
  go_upto_region 1 with fail
  rw [← HWB.out]
  clear HWB
  by_cases h012 : j = 0 ∨ j = 1 ∨ j = 2
  · obtain ⟨I, hI⟩ : ∃ I, I = internI N od := ⟨_, rfl⟩
    obtain ⟨E, hE⟩ : ∃ E, E = internE N od := ⟨_, rfl⟩
    rw [← hI, ← hE] at HIT HIQ
    clear hI hE
    have hee : (E == E) = true := beq_self_eq_true _
    have hii : ((I : Int) == (I : Int)) = true := beq_self_eq_true _
    rcases h012 with rfl | rfl | rfl
    all_goals
      go_wp2_with fail
      refine (HIT.out wb (Fr.refl _ _)).mono ?_
      rintro e w1 ⟨rfl, bs1, h1, s1⟩
      obtain ⟨m1, ap1⟩ := HB.out.prog s1
      have d2 := s1.1.cell b2 HBB.out
      have HF1 := Lib.hid h1
      have HS1 := Lib.hid s1
      have HM1 := Lib.hid m1
      have HAP := Lib.hid ap1
      clear h1 s1 m1 ap1 b0 b1 b2
      go_wp2_with fail
      refine (HIQ.out w1 HM1.out).mono ?_
      rintro e w2 ⟨rfl, cs2, h2, s2⟩
      have HP := Lib.hid (TkPair.doc HF1.out HAP.out h2 s2)
      have HST := Lib.hid (stp_both HS1.out s2)
      clear h2 s2 d2
      go_wp2
      go_ret
      exact ⟨rfl, bs1, cs2, _, HP.out, (HFB.out.mono (by simp)).trans HST.out.1, fun i hi => (HST.out.2 i hi).imp id fun h => Nat.le_trans HFB.out.size h⟩
  by_cases h3 : j = 3
  · subst h3
    cases hf : findN N od with
    | some i =>
      have hi := HB.out.f
      have hil : i < N.length := findN_lt hf
      have hl200 : N.length ≤ 200 := by
        obtain ⟨_, _, _, _, _, hh, -⟩ := HB.out.f
        exact hh.ok.len
      rw [hf] at HFT
      rw [findZ_some hf] at HFQ
      simp only [Option.getD_some, Option.isSome_some] at HFT
      clear hf hi
      have h0 : (0 : Int) ≤ (i : Int) := by omega
      have h1 : ¬ (i : Int) < 0 := by omega
      have hm : max (i : Int) 0 = (i : Int) := by omega
      have hii : ((i : Int) == (i : Int)) = true := beq_self_eq_true _
      go_wp2_with fail
      refine (HFT.out wb (Fr.refl _ _)).mono ?_
      rintro e w' ⟨rfl, rfl⟩
      go_wp2_with fail
      refine (HFQ.out wb (Fr.refl _ _)).mono ?_
      rintro e w' ⟨rfl, rfl⟩
      go_wp2
      go_ret
      exact ⟨rfl, .same HH.out HFB.out⟩
    | none =>
      rw [hf] at HFT
      rw [findZ_none hf] at HFQ
      simp only [Option.getD_none, Option.isSome_none] at HFT
      clear hf
      go_wp2_with fail
      refine (HFT.out wb (Fr.refl _ _)).mono ?_
      rintro e w' ⟨rfl, rfl⟩
      go_wp2_with fail
      refine (HFQ.out wb (Fr.refl _ _)).mono ?_
      rintro e w' ⟨rfl, rfl⟩
      go_wp2
      go_ret
      exact ⟨rfl, .same HH.out HFB.out⟩
  by_cases h4 : j = 4
  · subst h4
    obtain ⟨x, hx⟩ : ∃ x, x = nameN N oid := ⟨_, rfl⟩
    rw [← hx] at HNT HNQ
    clear hx
    have hsx : Str x = .string ⟨x.toArray⟩ := rfl
    obtain ⟨X, hX⟩ : ∃ X, X = ByteArray.mk x.toArray := ⟨_, rfl⟩
    rw [hsx, ← hX] at HNT HNQ
    by_cases hx0 : x = []
    · have hX2 : X = ⟨#[]⟩ := by rw [hX, hx0]
      rw [hX2] at HNT HNQ
      rw [show (x != []) = false by rw [hx0]; rfl] at HNT
      clear hX hx0 hsx hX2
      go_wp2_with fail
      refine (HNT.out wb (Fr.refl _ _)).mono ?_
      rintro e w' ⟨rfl, rfl⟩
      go_wp2_with fail
      refine (HNQ.out wb (Fr.refl _ _)).mono ?_
      rintro e w' ⟨rfl, rfl⟩
      go_wp2
      go_ret
      exact ⟨rfl, .same HH.out HFB.out⟩
    · rw [show (x != []) = true from bne_iff_ne.2 hx0] at HNT
      have hnl : X.toList.isEmpty = false := by rw [hX, ByteArray.toList_mk]; simpa using hx0
      clear hX hx0 hsx
      go_wp2_with fail
      refine (HNT.out wb (Fr.refl _ _)).mono ?_
      rintro e w' ⟨rfl, rfl⟩
      go_wp2_with fail
      refine (HNQ.out wb (Fr.refl _ _)).mono ?_
      rintro e w' ⟨rfl, rfl⟩
      go_wp2
      go_ret
      exact ⟨rfl, .same HH.out HFB.out⟩
  by_cases h56 : j = 5 ∨ j = 6
  · have HFE : Hid (∀ W, Fr [] wb W → Calls Tryd.prog 18 #[.pointer (some ⟨t, 0, none⟩), .int .i64 oid] W fun e w' => e = .returned (.int .i64 (forgetE N oid)) ∧ ∃ bs', TB B bs' w' t kd vr (forgetS N oid) ∧ Stp bs W bs' w') := Lib.hid fun W hW => Forget_T B bs W t kd vr N oid (HB.out.f.keep hW)
    have HFE9 : Hid (∀ W, MT C cs W q kd vr N → Calls Tryd.prog 45 #[.pointer (some ⟨q, 0, none⟩), .int .i64 oid] W fun e w' => e = .returned (.int .i64 (forgetE N oid)) ∧ ∃ cs', MT C cs' w' q kd vr (forgetS N oid) ∧ Stp cs W cs' w') := Lib.hid fun W hW => Forget_Q C cs W q kd vr N oid hW
    obtain ⟨E, hE⟩ : ∃ E, E = forgetE N oid := ⟨_, rfl⟩
    rw [← hE] at HFE HFE9
    clear hE
    have hee : (E == E) = true := beq_self_eq_true _
    have HBD := Lib.hid (HB.out.keep ((Fr.refl [] wb).drew))
    rcases h56 with rfl | rfl
    all_goals
      go_upto_region 17 with fail
      clear b0 b2
      go_region_held3 (fun w' => w'.cell? ⟨w.heap.size, 1, none⟩ = some (.int .i64 oid))
        (first
          | with_reducible assumption
          | exact b1)
        (first
          | (go_at_call 18; (with_reducible refine (HFE.out _ ((Fr.refl [] wb).drew)).mono ?_); rintro e wA ⟨rfl, bsA, hA, sA⟩; have hA1 : wA.cell? ⟨w.heap.size, 1, none⟩ = some (.int .i64 oid) := sA.1.cell b1 HBB.out; have hmA := HBD.out.prog sA)
          | (go_at_call 45; (with_reducible refine (HFE9.out _ hmA.1).mono ?_); rintro e wB ⟨rfl, csB, hB, sB⟩; have hB1 : wB.cell? ⟨w.heap.size, 1, none⟩ = some (.int .i64 oid) := sB.1.cell hA1 HBC.out))
      all_goals
        have HP := Lib.hid (TkPair.doc hA hmA.2 hB sB)
        have HST := Lib.hid (stp_both sA sB)
        have HFD := Lib.hid (HFB.out.trans ((Fr.refl [] wb).drew))
        clear hA hmA hB sA sB
        go_wp2
        go_ret
        exact ⟨rfl, bsA, csB, _, HP.out, (HFD.out.mono (by simp)).trans HST.out.1, fun i hi => (HST.out.2 i hi).imp id fun h => Nat.le_trans HFD.out.size h⟩
  · obtain rfl : j = 7 := by omega
    obtain ⟨D, hD⟩ : ∃ D, D = fileB kd vr 42 (recsT N) := ⟨_, rfl⟩
    have HBY : Hid (∀ W, Fr [] wb W → Calls Tryd.prog 17 #[.pointer (some ⟨t, 0, none⟩)] W fun e w' => ∃ v, e = .returned v ∧ Fresh W.heap.size W w' v D) := Lib.hid fun W hW => by rw [hD]; exact Bytes_T B bs W t kd vr N (HB.out.f.keep hW) (nib_keep HN.out (HFB.out.trans hW))
    have HBY9 : Hid (∀ W, Fr [] wb W → Calls Tryd.prog 23 #[.pointer (some ⟨q, 0, none⟩)] W fun e w' => ∃ v, e = .returned v ∧ Fresh W.heap.size W w' v D) := Lib.hid fun W hW => by rw [hD]; exact Bytes_Q C cs W q kd vr N (HB.out.m.keep hW) hkd hvr
    have HDL : Hid (D.length ≤ 17000000) := Lib.hid (by
      obtain ⟨_, _, _, _, _, hh, -⟩ := HB.out.f
      rw [hD, fileB_length (recsT_sized hh.ok)]
      have h1 : (recsT N).length ≤ 200 := by unfold recsT; rw [List.length_map]; exact hh.ok.len
      omega)
    clear hD
    go_wp2_with fail
    clear b0 b1 b2
    refine (HBY.out wb (Fr.refl _ _)).mono ?_
    rintro e w1 ⟨v1, rfl, hv1⟩
    have ho1 := OwnB.of hv1.got.1
    obtain ⟨g1, c1, rfl, hg1, -, -, hf1⟩ := hv1.bytes
    have HO1 := Lib.hid ho1
    have HF1 := Lib.hid hf1
    have HG1 := Lib.hid hg1
    clear hv1 ho1 hg1 hf1
    go_wp2_with fail
    refine (HBY.out w1 HF1.out).mono ?_
    rintro e w2 ⟨v2, rfl, hv2⟩
    obtain ⟨g2, c2, rfl, hg2, -, hb2, hf2⟩ := hv2.bytes
    have HF2 := Lib.hid (HF1.out.trans hf2)
    have HB2 := Lib.hid hb2
    have HG2 : Hid (g1 < g2) := Lib.hid (by have := (HO1.out.lt (i := g1) rfl).2; omega)
    have HO2 := Lib.hid (HO1.out.keep hf2 (by simp))
    clear hv2 hb2 hf2 hg2
    have hdl := HDL.out
    obtain ⟨n, hnl⟩ : ∃ n, n = D.length := ⟨_, rfl⟩
    rw [← hnl] at hdl HO2
    simp only [← hnl]
    have HNL := Lib.hid hnl
    clear hnl
    go_wp2_with fail
    go_loopw [110] (fun i wx => ∃ k2 : Nat, k2 ≤ n ∧ i = .int .i64 k2 ∧ Fr [g1] w2 wx ∧ OwnB wx wb.heap.size (.slice (some ⟨g1, 0, none⟩) n c1) n) (fun i _ => n - (intOf i).toNat)
    case atStart => exact ⟨0, by omega, rfl, Fr.refl _ _, HO2.out⟩
    case round =>
      obtain ⟨k2, hk2, rfl, hf4, ho4⟩ := hrel
      have HF4 := Lib.hid hf4
      have HO4 := Lib.hid ho4
      clear hf4 ho4
      by_cases hlt2 : k2 < n
      · obtain ⟨⟨y, hy⟩, hz⟩ := HO4.out.cell hlt2
        have hki2 : (k2 : Int) < (n : Int) := by omega
        have hk02 : (0 : Int) ≤ (k2 : Int) := by omega
        have e2 : IntKind.i64.wrap ((k2 : Int) + 1) = (k2 : Int) + 1 := IntWalk.i64_in _ (by omega)
        go_wp2_with fail
        go_roundw
        case rel => exact ⟨k2 + 1, by omega, by go_num, HF4.out.setCell (by simp) _, HO4.out.setN k2 238 (by decide)⟩
        case measure => simp [intOf] <;> omega
      · have hki2 : ¬ (k2 : Int) < (n : Int) := by omega
        have HF3 : Hid (Fr [] wb wr) := Lib.hid (frNewT HF2.out HF4.out fun i hi => by
          simp at hi; subst hi; exact HG1.out)
        have HB3 : Hid (Bytes wr (some ⟨g2, 0, none⟩) D) := Lib.hid (HB2.out.fr HF4.out (.inr fun ad e hm => by
          cases e
          simp at hm
          have := HG2.out
          omega))
        go_wp2_with fail
        refine (HBY9.out wr HF3.out).mono ?_
        rintro e w4 ⟨v4, rfl, hv4⟩
        obtain ⟨g4, c4, rfl, -, -, hb4, hf4⟩ := hv4.bytes
        have HF5 := Lib.hid (HF3.out.trans hf4)
        have HSM := Lib.hid (same11 (some ⟨g2, 0, none⟩) (some ⟨g4, 0, none⟩) c2 c4 D D w4 (fun h => by cases h) (fun h => by cases h) (HB3.out.keep hf4) hb4)
        rw [beq_self_eq_true, ← HNL.out] at HSM
        clear hv4 hb4 hf4
        simp only [← HNL.out]
        go_wp2_with fail
        refine HSM.out.mono ?_
        rintro e w' ⟨rfl, rfl⟩
        go_wp2
        go_ret
        exact ⟨rfl, .same HH.out (HFB.out.trans HF5.out)⟩
end Go.Proofs.YtlckhfjkdahfpaaDoor
