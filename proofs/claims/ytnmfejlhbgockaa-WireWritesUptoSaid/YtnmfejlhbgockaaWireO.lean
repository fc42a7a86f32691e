/- The walk of the law WireWrites, where what the script holds is small. -/
import Derived.Test.YtnmfejlhbgockaaWireN
import Derived.Test.YtnmfejlhbgockaaWireArgs
namespace Go.Proofs.Ytnmfejlhbgockaa
open Go.RowKit
attribute [local go_sem] mulU256 wrapU_nat wrapU_I8 wrapU addU mulU remU divU byteU shrU I8_ne I8_eq U_eq U_ne

theorem lt258 : (258 : Nat) < 18446744073709551616 := by omega
theorem U258 : U 258 = 258 := by
  have h : (258 : Nat) < 18446744073709551616 := by omega
  rw [U_lt 258 h]
  simp
set_option maxHeartbeats 1600000 in
theorem wireWrites_walk (sa : Option Addr) (sn sc : Nat) (F : Nat → OpV) (w : World) (hsn : sn ≤ 1048576) (hops : Ops w sa sn F) (hsm : ∀ k, k < sn → (F k).data.length ≤ 1048576) :
    Calls Try.prog 6 #[.slice sa sn sc] w fun e w' => e = .returned (.bool true) ∧ Fr [] w w' := by
  go_enter Try.func6, Try.ntmps6
  go_wp2_with fail
  refine (speaks_wire _).mono ?_
  rintro e w1 ⟨rfl, hf1⟩
  go_wp2_with fail
  refine (NewWriter_any w1).mono ?_
  rintro e w2 ⟨rfl, ho2, hf2, hlt2⟩
  have S2 := ((Sep.start w).still hf1).box hf2 (Nat.le_refl _) hlt2
  generalize w1.heap.size = p at ho2 hlt2 S2 ⊢
  go_wp2_with fail
  refine (NewWriter_any w2).mono ?_
  rintro e w3 ⟨rfl, ho3, hf3, hlt3⟩
  have S3 := S2.box hf3 (Nat.le_refl _) hlt3
  have hop := hf3.obj ho2 (by simp)
  have hpp : p ≠ w2.heap.size := by omega
  generalize w2.heap.size = p2 at ho3 hlt3 S3 hpp ⊢
  have S4 := (S3.add ((Fr.refl _ _).alloc (.cells #[] 5)) (own_empty w3 5)).add (v := .slice none 0 0) (l := []) (Fr.refl _ _) (World.ownsRow_nil _ _ _ _)
  have hop4 := ((Fr.refl [] w3).alloc (.cells #[] 5)).obj hop (by simp)
  have ho34 := ((Fr.refl [] w3).alloc (.cells #[] 5)).obj ho3 (by simp)
  clear S3 hop ho3 ho2 hlt2 hlt3 hf1 hf2 hf3 S2
  have HS4 := Lib.hid S4
  have HP4 := Lib.hid hop4
  have HQ4 := Lib.hid ho34
  clear S4 hop4 ho34
  go_wp2_with fail
  go_loopw [5, 7, 8, 22] (fun h _ _ i wr => ∃ (k : Nat) (L : List UInt8) (vw : Value), k ≤ sn ∧ i = .int .i64 k ∧ L.length ≤ k * 1048584 ∧ Sep w wr [p2, p] [(vw, L), (h, L)] ∧ wr.heap[p]? = some (.cells #[vw] 68) ∧ wr.heap[p2]? = some (.cells #[.slice none 0 0] 68)) (fun _ _ _ i _ => sn - (intOf i).toNat)
  case atStart => exact ⟨0, [], .slice none 0 0, by omega, rfl, by simp, HS4.out, HP4.out, HQ4.out⟩
  case round =>
    obtain ⟨k, L, vw, hk, rfl, hL, hS, hoPr, hoP2r⟩ := hrel
    have HLL := Lib.hid (show L.length ≤ 1099520016384 by omega)
    have HLK := Lib.hid hL
    clear hL HS4 HP4 HQ4
    obtain ⟨ah, ch, rfl, _⟩ := Bytes.of_own (show wr.ownsRow w.heap.size 5 1 u5 L.length (L.map B8) from hS.own (u5, L) (by simp))
    have HS := Lib.hid hS
    clear hS
    by_cases hlt : k < sn
    · obtain ⟨b, off, rfl, d0, d1, d2, d3⟩ := (hops.keep HS.out.fr).cell k hlt
      rw [← Nat.add_assoc] at d1 d2 d3
      have hok := hops.ok k hlt
      have hdl := hsm k hlt
      generalize F k = o at d0 d1 d2 d3 hok hdl
      obtain ⟨kd, wd, nm, oa, oc, od⟩ := o
      have HD := Lib.hid (show od.length ≤ 1048576 from hdl)
      clear hdl
      obtain ⟨bo, hbo0⟩ : ∃ bo, bo = wr.heap.size := ⟨_, rfl⟩
      obtain ⟨wb, hwb⟩ : ∃ wb, wb = wr.alloc (.cells #[.int .i64 kd, .int .i64 wd, .int .u64 (U nm), .slice oa od.length oc] 50) := ⟨_, rfl⟩
      have hfb : Fr [] wr wb := by rw [hwb]; exact (Fr.refl _ _).alloc _
      have Sb : Sep w wb [bo, p2, p] [(vw, L), (Value.slice ah L.length ch, L)] := HS.out.box hfb (by omega) (by rw [hwb, hbo0]; simp)
      have hbo : wb.heap[bo]? = some (.cells #[.int .i64 kd, .int .i64 wd, .int .u64 (U nm), .slice oa od.length oc] 50) := by rw [hwb, hbo0]; exact heap_alloc_new wr _
      have hoPb := hfb.obj hoPr (by simp)
      have hoP2b := hfb.obj hoP2r (by simp)
      have hpb : p < bo ∧ p2 < bo := by rw [hbo0]; exact ⟨(Array.getElem?_eq_some_iff.1 hoPr).1, (Array.getElem?_eq_some_iff.1 hoP2r).1⟩
      clear hoPr hoP2r hfb HS
      by_cases hk0 : bits .and .i64 kd 3 = 0
      · have H1 := Num_any w.heap.size p vw L wd nm wb hoPb (Sb.own (vw, L) (by simp)) (fun e => Sb.pne (vw, L) (by simp) p e (by simp)) Sb.fr.size hok.num (by have := HLL.out; omega)
        go_wp2_with fail
        rw [← hwb]
        clear hwb
        refine H1.mono ?_
        rintro x wc ⟨rfl, v', hpu⟩
        clear H1
        have S1 := Sb.puts [] [(Value.slice ah L.length ch, L)] hpu (by simp)
        have hoP := hpu.obj
        have hvp2 : vw.ownBlock ≠ some p2 := fun e => Sb.pne (vw, L) (by simp) p2 e (by simp)
        have hvbo : vw.ownBlock ≠ some bo := fun e => Sb.pne (vw, L) (by simp) bo e (by simp)
        have hoP2 := hpu.fr.obj hoP2b (by simp [hvp2]; omega)
        have hoB := hpu.fr.obj hbo (by simp [hvbo]; omega)
        have x1 := cell_of_row wc bo 1 _ _ _ hoB
        have x2 := cell_of_row wc bo 2 _ _ _ hoB
        clear hpu Sb hoPb hoP2b hbo hvp2 hvbo
        have HS1 := Lib.hid S1
        clear S1
        rw [hbo0] at x1 x2
        replace x1 : wc.cell? ⟨wr.heap.size, 1, none⟩ = some (.int .i64 wd) := x1
        replace x2 : wc.cell? ⟨wr.heap.size, 2, none⟩ = some (.int .u64 (U nm)) := x2
        go_wp2_with fail
        refine (refnum_any wd nm wc hok.num).mono ?_
        rintro x we ⟨vn, rfl, hfr⟩
        have hfe := hfr.got.2
        have S2 := HS1.out.still hfe
        have hoPe := hfe.obj hoP (by simp)
        have hoP2e := hfe.obj hoP2 (by simp)
        obtain ⟨gn, cn, rfl, _, _, hbn, _⟩ := hfr.bytes
        have HNL := Lib.hid (numB_length wd nm)
        clear hfr hoP hoP2 hoB x1 x2 hfe
        generalize numB wd nm = N at *
        obtain ⟨M, hM⟩ : ∃ M, M = L ++ N := ⟨_, rfl⟩
        have HM := Lib.hid (show M.length ≤ (k + 1) * 1048584 by have := HLK.out; have := HNL.out; rw [hM, List.length_append]; omega)
        have HEQ := Lib.hid hM
        clear hM
        go_wp2_with (at_builtin; refine wpList_apB _ rfl _ _ 22 rfl w.heap.size 5 Try.underlying22 info8 (.slice ah L.length ch) L rfl (S2.own (Value.slice ah L.length ch, L) (by simp)) (some ⟨gn, 0, none⟩) _ cn N rfl rfl hbn (fun h => by cases h) (by have := HLL.out; have := HNL.out; omega) S2.fr.size ?_; intro vq wz happ; have ho' := happ.own; have hb' := happ.blk; rw [← HEQ.out] at ho'; obtain ⟨aq, cq, rfl, _⟩ := Bytes.of_own ho'; have S3q := S2.turn [(v', L ++ N)] [] happ.fr (fun i hi => .inr (by simpa using hi)) ho' hb'; have hoP := S2.obj (v := Value.slice ah L.length ch) (l := L) (by simp) happ.fr (p := p) (by simp) hoPe; have hoP2 := S2.obj (v := Value.slice ah L.length ch) (l := L) (by simp) happ.fr (p := p2) (by simp) hoP2e; clear happ S2 hoPe hoP2e ho' hb' hbn)
        rw [← HEQ.out] at S3q
        have HLEN := Lib.hid (Len_any w.heap.size p v' M wz hoP (S3q.own (v', M) (by simp)))
        have HS3 := Lib.hid S3q
        clear S3q
        refine HLEN.out.mono ?_
        rintro x wy ⟨rfl, rfl⟩
        go_wp2
        go_roundw
        case rel => exact ⟨k + 1, M, v', by omega, by go_num, HM.out, HS3.out.less, hoP, hoP2⟩
        case measure => simp [intOf] <;> omega
      by_cases hk1 : bits .and .i64 kd 3 = 1
      · have x3w : wb.cell? ⟨bo, 3, none⟩ = some (.slice oa od.length oc) := cell_of_row wb bo 3 _ _ _ hbo
        rw [hbo0] at x3w
        have hfb : Fr [] w wb := Sb.fr
        go_wp2_with fail
        rw [← hwb]
        clear hwb
        refine (copy_any oa oc od wb (by have := HD.out; omega) (hok.bytes.keep hfb)).mono ?_
        rintro x wc ⟨vi, rfl, hfr⟩
        have hfc := hfr.got.2
        have S1 := Sb.add hfc hfr.got.1
        obtain ⟨gi, ci, rfl, _, _, hbi, _⟩ := hfr.bytes
        have hoPc := hfc.obj hoPb (by simp)
        have hoP2c := hfc.obj hoP2b (by simp)
        have hoBc := hfc.obj hbo (by simp)
        clear hfr hfc Sb hoPb hoP2b hbo x3w hfb
        have H1 := Raw_any w.heap.size p vw L (some ⟨gi, 0, none⟩) ci od wc hoPc (S1.own (vw, L) (by simp)) (fun e => S1.pne (vw, L) (by simp) p e (by simp)) S1.fr.size hbi (fun h => by cases h) (by have := HLL.out; have := HD.out; omega)
        go_wp2_with fail
        refine H1.mono ?_
        rintro x we ⟨rfl, v', hpu⟩
        clear H1
        have S2 := S1.puts [(Value.slice (some ⟨gi, 0, none⟩) od.length ci, od)] [(Value.slice ah L.length ch, L)] hpu (by simp)
        have hvp2 : vw.ownBlock ≠ some p2 := fun e => S1.pne (vw, L) (by simp) p2 e (by simp)
        have hvbo : vw.ownBlock ≠ some bo := fun e => S1.pne (vw, L) (by simp) bo e (by simp)
        have hoPd := hpu.obj
        have hoP2d := hpu.fr.obj hoP2c (by simp [hvp2]; omega)
        have hoBd := hpu.fr.obj hoBc (by simp [hvbo]; omega)
        have x3 : we.cell? ⟨bo, 3, none⟩ = some (.slice oa od.length oc) := cell_of_row we bo 3 _ _ _ hoBd
        rw [hbo0] at x3
        clear hpu S1 hoPc hoP2c hoBc hvp2 hvbo hbi
        have H2 := same_yes (some ⟨gi, 0, none⟩) oa ci oc od we (by have := HD.out; omega) (S2.bytes (n := od.length) (cap := ci) (by simp)) (hok.bytes.keep S2.fr)
        have HS2 := Lib.hid S2
        clear S2
        go_wp2_with fail
        refine H2.mono ?_
        rintro x wf ⟨rfl, hff⟩
        clear H2
        have S2 := HS2.out.still hff
        have hoPf := hff.obj hoPd (by simp)
        have hoP2f := hff.obj hoP2d (by simp)
        have hoBf := hff.obj hoBd (by simp)
        clear hoPd hoP2d hoBd HS2 hff x3
        have H4 := spoil_any w.heap.size (.slice (some ⟨gi, 0, none⟩) od.length ci) od 238 wf (by have := HD.out; omega) (S2.own (Value.slice (some ⟨gi, 0, none⟩) od.length ci, od) (by simp)) S2.fr.size
        rw [show I8 238 = 238 by decide +kernel] at H4
        have HS2 := Lib.hid S2
        clear S2
        go_wp2_with fail
        refine H4.mono ?_
        rintro x wg ⟨rfl, hown4, hf4⟩
        clear H4
        have S4 := (HS2.out.turn [] [(v', L ++ od), (Value.slice ah L.length ch, L)] (v' := .slice (some ⟨gi, 0, none⟩) od.length ci) (l' := List.replicate od.length 238) hf4 (fun i hi => .inr (by simpa using hi)) (by simpa using hown4) (.inl rfl)).drop1
        have hoPe := HS2.out.obj (v := Value.slice (some ⟨gi, 0, none⟩) od.length ci) (l := od) (by simp) hf4 (p := p) (by simp) hoPf
        have hoP2e := HS2.out.obj (v := Value.slice (some ⟨gi, 0, none⟩) od.length ci) (l := od) (by simp) hf4 (p := p2) (by simp) hoP2f
        have hoBe := HS2.out.obj (v := Value.slice (some ⟨gi, 0, none⟩) od.length ci) (l := od) (by simp) hf4 (p := bo) (by simp) hoBf
        have x3 : wg.cell? ⟨bo, 3, none⟩ = some (.slice oa od.length oc) := cell_of_row wg bo 3 _ _ _ hoBe
        rw [hbo0] at x3
        have hbd := hok.bytes.keep S4.fr
        have HNN := Lib.hid hok.none
        clear hown4 hf4 HS2 hoPf hoP2f hoBf hoBe
        obtain ⟨M, hM⟩ : ∃ M, M = L ++ od := ⟨_, rfl⟩
        have HM := Lib.hid (show M.length ≤ (k + 1) * 1048584 by have := HLK.out; have := HD.out; rw [hM, List.length_append]; omega)
        have HEQ := Lib.hid hM
        clear hM
        go_wp2_with (at_builtin; refine wpList_apB _ rfl _ _ 22 rfl w.heap.size 5 Try.underlying22 info8 (.slice ah L.length ch) L rfl (S4.own (Value.slice ah L.length ch, L) (by simp)) oa _ oc od rfl rfl hbd HNN.out (by have := HLL.out; have := HD.out; omega) S4.fr.size ?_; intro vq wz happ; have ho' := happ.own; have hb' := happ.blk; rw [← HEQ.out] at ho'; obtain ⟨aq, cq, rfl, _⟩ := Bytes.of_own ho'; have S3q := S4.turn [(v', L ++ od)] [] happ.fr (fun i hi => .inr (by simpa using hi)) ho' hb'; have hoP := S4.obj (v := Value.slice ah L.length ch) (l := L) (by simp) happ.fr (p := p) (by simp) hoPe; have hoP2 := S4.obj (v := Value.slice ah L.length ch) (l := L) (by simp) happ.fr (p := p2) (by simp) hoP2e; clear happ S4 hoPe hoP2e ho' hb' hbd x3)
        rw [← HEQ.out] at S3q
        have HLEN := Lib.hid (Len_any w.heap.size p v' M wz hoP (S3q.own (v', M) (by simp)))
        have HS3 := Lib.hid S3q
        clear S3q
        refine HLEN.out.mono ?_
        rintro x wy ⟨rfl, rfl⟩
        go_wp2
        go_roundw
        case rel => exact ⟨k + 1, M, v', by omega, by go_num, HM.out, HS3.out.less, hoP, hoP2⟩
        case measure => simp [intOf] <;> omega
      by_cases hk2 : bits .and .i64 kd 3 = 2
      · have x3w : wb.cell? ⟨bo, 3, none⟩ = some (.slice oa od.length oc) := cell_of_row wb bo 3 _ _ _ hbo
        rw [hbo0] at x3w
        have hcv := conv_any oa oc od wb hok.none (hok.bytes.keep Sb.fr)
        have H1 := Str_any w.heap.size p vw L od wb hoPb (Sb.own (vw, L) (by simp)) (fun e => Sb.pne (vw, L) (by simp) p e (by simp)) Sb.fr.size (by have := HLL.out; have := HD.out; omega)
        rw [hwb] at hcv
        go_wp2_with fail
        rw [← hwb]
        clear hwb hcv
        refine H1.mono ?_
        rintro x we ⟨rfl, v', hpu⟩
        clear H1
        have S2 := Sb.puts [] [(Value.slice ah L.length ch, L)] hpu (by simp)
        have hvp2 : vw.ownBlock ≠ some p2 := fun e => Sb.pne (vw, L) (by simp) p2 e (by simp)
        have hvbo : vw.ownBlock ≠ some bo := fun e => Sb.pne (vw, L) (by simp) bo e (by simp)
        have hoPe := hpu.obj
        have hoP2e := hpu.fr.obj hoP2b (by simp [hvp2]; omega)
        have hoBe := hpu.fr.obj hbo (by simp [hvbo]; omega)
        have x3 : we.cell? ⟨bo, 3, none⟩ = some (.slice oa od.length oc) := cell_of_row we bo 3 _ _ _ hoBe
        rw [hbo0] at x3
        have hbd := hok.bytes.keep S2.fr
        have HNN := Lib.hid hok.none
        clear hpu Sb hoPb hoP2b hbo hvp2 hvbo hoBe x3w
        obtain ⟨M, hM⟩ : ∃ M, M = L ++ od := ⟨_, rfl⟩
        have HM := Lib.hid (show M.length ≤ (k + 1) * 1048584 by have := HLK.out; have := HD.out; rw [hM, List.length_append]; omega)
        have HEQ := Lib.hid hM
        clear hM
        go_wp2_with (at_builtin; refine wpList_apB _ rfl _ _ 22 rfl w.heap.size 5 Try.underlying22 info8 (.slice ah L.length ch) L rfl (S2.own (Value.slice ah L.length ch, L) (by simp)) oa _ oc od rfl rfl hbd HNN.out (by have := HLL.out; have := HD.out; omega) S2.fr.size ?_; intro vq wz happ; have ho' := happ.own; have hb' := happ.blk; rw [← HEQ.out] at ho'; obtain ⟨aq, cq, rfl, _⟩ := Bytes.of_own ho'; have S3q := S2.turn [(v', L ++ od)] [] happ.fr (fun i hi => .inr (by simpa using hi)) ho' hb'; have hoP := S2.obj (v := Value.slice ah L.length ch) (l := L) (by simp) happ.fr (p := p) (by simp) hoPe; have hoP2 := S2.obj (v := Value.slice ah L.length ch) (l := L) (by simp) happ.fr (p := p2) (by simp) hoP2e; clear happ S2 hoPe hoP2e ho' hb' hbd x3)
        rw [← HEQ.out] at S3q
        have HLEN := Lib.hid (Len_any w.heap.size p v' M wz hoP (S3q.own (v', M) (by simp)))
        have HS3 := Lib.hid S3q
        clear S3q
        refine HLEN.out.mono ?_
        rintro x wy ⟨rfl, rfl⟩
        go_wp2
        go_roundw
        case rel => exact ⟨k + 1, M, v', by omega, by go_num, HM.out, HS3.out.less, hoP, hoP2⟩
        case measure => simp [intOf] <;> omega
      · have H1 := Bytes_any w.heap.size p vw L wb hoPb (Sb.own (vw, L) (by simp)) (by have := HLL.out; omega)
        go_wp2_with fail
        rw [← hwb]
        clear hwb
        refine H1.mono ?_
        rintro x wc ⟨u, rfl, hgot⟩
        clear H1
        have S1 := Sb.still hgot.2
        have hoP := hgot.2.obj hoPb (by simp)
        have hoP2 := hgot.2.obj hoP2b (by simp)
        have H2 := same_own _ _ u (.slice ah L.length ch) L wc (by have := HLL.out; omega) hgot.1 (S1.own (Value.slice ah L.length ch, L) (by simp))
        clear hgot Sb hoPb hoP2b hbo
        have HS1 := Lib.hid S1
        clear S1
        go_wp2_with fail
        refine H2.mono ?_
        rintro x wz ⟨rfl, hfz⟩
        clear H2
        have S3q := HS1.out.still hfz
        replace hoP := hfz.obj hoP (by simp)
        replace hoP2 := hfz.obj hoP2 (by simp)
        have HM := Lib.hid (Nat.le_trans HLK.out (Nat.mul_le_mul_right 1048584 (Nat.le_succ k)))
        clear hfz HS1
        go_wp2_with fail
        have HLEN := Lib.hid (Len_any w.heap.size p vw L wz hoP (S3q.own (vw, L) (by simp)))
        have HS3 := Lib.hid S3q
        clear S3q
        refine HLEN.out.mono ?_
        rintro x wy ⟨rfl, rfl⟩
        go_wp2
        go_roundw
        case rel => exact ⟨k + 1, L, vw, by omega, by go_num, HM.out, HS3.out.less, hoP, hoP2⟩
        case measure => simp [intOf] <;> omega
    · have HS2 := Lib.hid HS.out
      clear HLK
      have hB : w.heap.size ≤ wr.heap.size := HS.out.fr.size
      have hnum := Num_yes w.heap.size p2 (.slice none 0 0) [] 2 258 wr hoP2r (World.ownsRow_nil _ _ _ _) (by simp [Value.ownBlock]) hB (.inr (.inl rfl)) lt258 (by simp)
      rw [U258] at hnum
      have S0 := HS.out.add (v := .slice none 0 0) (l := []) (Fr.refl _ _) (World.ownsRow_nil _ _ _ _)
      have H0 := Lib.hid S0
      clear S0
      go_wp2_with fail
      refine hnum.mono ?_
      rintro x wc ⟨rfl, v2, hpu⟩
      clear hnum
      have S1 := H0.out.puts [] [(vw, L), (Value.slice ah L.length ch, L)] hpu (by simp)
      have hoQ := hpu.obj
      have hoP := hpu.fr.obj hoPr (by simp [Value.ownBlock]; exact hpp)
      clear hpu H0
      have H1 := Bytes_any w.heap.size p vw L wc hoP (S1.own (vw, L) (by simp)) (by have := HLL.out; omega)
      have HS1 := Lib.hid S1
      clear S1
      go_wp2_with fail
      refine H1.mono ?_
      rintro x we ⟨u, rfl, hgot⟩
      clear H1
      have S2 := HS1.out.still hgot.2
      have hoQ2 := hgot.2.obj hoQ (by simp)
      have H2 := same_own _ _ u (.slice ah L.length ch) L we (by have := HLL.out; omega) hgot.1 (S2.own (Value.slice ah L.length ch, L) (by simp))
      have HS2 := Lib.hid S2
      clear S2 hgot
      go_wp2_with fail
      refine H2.mono ?_
      rintro x wf ⟨rfl, hff⟩
      clear H2
      have S3 := HS2.out.still hff
      have hoQ3 := hff.obj hoQ2 (by simp)
      have H3 := Bytes_any w.heap.size p2 v2 ([] ++ by8 2 258) wf hoQ3 (S3.own (v2, [] ++ by8 2 258) (by simp)) (by decide)
      have HS3 := Lib.hid S3
      clear S3
      go_wp2_with fail
      refine H3.mono ?_
      rintro x wg ⟨u2, rfl, hgot⟩
      clear H3
      have S4 := HS3.out.still hgot.2
      have hown := own_alloc hgot.1 (w := wg) (.cells #[.int .u8 1, .int .u8 2] 5)
      have hlt2 := Bytes.lit (w := wg) (t := 5) (fr := (0, 0)) [1, 2] rfl (by decide) rfl
      have FR := Lib.hid (S4.fr.alloc (.cells #[.int .u8 1, .int .u8 2] 5))
      obtain ⟨au, cu, rfl, hbu, _⟩ := Bytes.of_own hown
      rw [show ([] ++ by8 2 258 : List UInt8) = lb [1, 2] by decide +kernel] at hbu
      rw [show ([] ++ by8 2 258 : List UInt8).length = 2 by decide +kernel]
      clear S4 hgot hown
      have H4 := same_yes au (some ⟨wg.heap.size, 0, none⟩) cu 2 (lb [1, 2]) _ (by decide) hbu hlt2
      go_wp2_with fail
      refine H4.mono ?_
      rintro x wh ⟨rfl, hfh⟩
      go_wp2
      go_ret
      exact ⟨rfl, FR.out.trans hfh⟩
end Go.Proofs.Ytnmfejlhbgockaa
