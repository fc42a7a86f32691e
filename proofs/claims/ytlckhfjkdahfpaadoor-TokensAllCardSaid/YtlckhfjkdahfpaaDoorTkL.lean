/- Tokens: the document's table in memory; New, Len, Name, Find. -/
import Derived.Test.YtlckhfjkdahfpaaDoorTkD
import Derived.Test.YtlckhfjkdahfpaaDoorRfK
namespace Go.Proofs.YtlckhfjkdahfpaaDoor
open Go.RowKit Go.Maps
attribute [local go_sem ↓] Go.wp_at_zero Go.wp_at_succ
attribute [local go_sem] Oper.semAt_some
/-- the document's table in memory -/
structure MTH (w : World) (B q kd vr : Nat) (v : Value) (N : Nms) : Prop where
  obj : w.heap[q]? = some (.cells #[.int .i64 kd, .int .i64 vr, v] 59)
  nms : w.ownsRow B 9 1 v N.length (N.map Str)
  ok : NOk N
  bq : B ≤ q
def mtB (q : Nat) (v : Value) : List Nat := q :: v.ownBlock.toList
theorem mtB_q (q : Nat) (v : Value) : q ∈ mtB q v := List.mem_cons_self
theorem mtB_v {q : Nat} {v : Value} {g : Nat} (h : v.ownBlock = some g) : g ∈ mtB q v := List.mem_cons_of_mem _ (by simpa using h)
theorem mtB_cases {q : Nat} {v : Value} {g : Nat} (h : g ∈ mtB q v) : g = q ∨ v.ownBlock = some g := by simpa [mtB] using h
def MT (B : Nat) (bs : List Nat) (w : World) (q kd vr : Nat) (N : Nms) : Prop := ∃ v, MTH w B q kd vr v N ∧ bs = mtB q v
theorem MTH.off {w : World} {B q kd vr : Nat} {v : Value} {N : Nms} (h : MTH w B q kd vr v N) : v.ownBlock ≠ some q := own_ty h.nms h.obj (by decide)
theorem MTH.lt {w : World} {B q kd vr : Nat} {v : Value} {N : Nms} (h : MTH w B q kd vr v N) : ∀ i ∈ mtB q v, B ≤ i ∧ i < w.heap.size := by
  intro i hi
  rcases mtB_cases hi with rfl | hi
  · exact ⟨h.bq, (Array.getElem?_eq_some_iff.1 h.obj).1⟩
  · exact own_lt h.nms hi
theorem MTH.fr {S : List Nat} {w w' : World} {B q kd vr : Nat} {v : Value} {N : Nms} (h : MTH w B q kd vr v N) (hf : Fr S w w') (hS : ∀ i ∈ mtB q v, i ∉ S) : MTH w' B q kd vr v N :=
  ⟨hf.obj h.obj (hS q (mtB_q ..)), own_fr h.nms hf fun g hg => hS g (mtB_v hg), h.ok, h.bq⟩
theorem MT.lt {B : Nat} {bs : List Nat} {w : World} {q kd vr : Nat} {N : Nms} (h : MT B bs w q kd vr N) : ∀ i ∈ bs, B ≤ i ∧ i < w.heap.size := by
  obtain ⟨v, h, rfl⟩ := h
  exact h.lt
theorem MT.fr {S : List Nat} {B : Nat} {bs : List Nat} {w w' : World} {q kd vr : Nat} {N : Nms} (h : MT B bs w q kd vr N) (hf : Fr S w w') (hS : ∀ i ∈ bs, i ∉ S) : MT B bs w' q kd vr N := by
  obtain ⟨v, h, rfl⟩ := h
  exact ⟨v, h.fr hf hS, rfl⟩
theorem MT.keep {B : Nat} {bs : List Nat} {w w' : World} {q kd vr : Nat} {N : Nms} (h : MT B bs w q kd vr N) (hf : Fr [] w w') : MT B bs w' q kd vr N := h.fr hf (by simp)
theorem trioQ {w : World} {b T : Nat} {c0 c1 c2 : Value} (h : w.heap[b]? = some (.cells #[c0, c1, c2] T)) : w.cell? ⟨b, 0, none⟩ = some c0 ∧ w.cell? ⟨b, 1, none⟩ = some c1 ∧ w.cell? ⟨b, 2, none⟩ = some c2 :=
  ⟨cell_of_row _ _ 0 _ _ _ h, cell_of_row _ _ 1 _ _ _ h, cell_of_row _ _ 2 _ _ _ h⟩
/-- both wrongArgs tell the same -/
theorem wrong_Q (kd vr : Int) (w : World) : Calls Tryd.prog 41 #[.int .i64 kd, .int .i64 vr] w fun e w' => e = .returned (.bool (wrongB kd vr)) ∧ w = w' := by
  by_cases h1 : kd < 1
  · have HE : Hid (wrongB kd vr = true) := Lib.hid (decide_eq_true (by omega))
    go_enter Tryd.func41, Tryd.ntmps41
    go_wp2_with fail
    go_ret
    exact ⟨by rw [HE.out]; rfl, rfl⟩
  by_cases h2 : 3 < kd
  · have HE : Hid (wrongB kd vr = true) := Lib.hid (decide_eq_true (by omega))
    go_enter Tryd.func41, Tryd.ntmps41
    go_wp2_with fail
    go_ret
    exact ⟨by rw [HE.out]; rfl, rfl⟩
  by_cases h3 : vr < 1
  · have HE : Hid (wrongB kd vr = true) := Lib.hid (decide_eq_true (by omega))
    go_enter Tryd.func41, Tryd.ntmps41
    go_wp2_with fail
    go_ret
    exact ⟨by rw [HE.out]; rfl, rfl⟩
  by_cases h4 : 2 < vr
  · have HE : Hid (wrongB kd vr = true) := Lib.hid (decide_eq_true (by omega))
    go_enter Tryd.func41, Tryd.ntmps41
    go_wp2_with fail
    go_ret
    exact ⟨by rw [HE.out]; rfl, rfl⟩
  · have HE : Hid (wrongB kd vr = false) := Lib.hid (decide_eq_false (by omega))
    go_enter Tryd.func41, Tryd.ntmps41
    go_wp2_with fail
    go_ret
    exact ⟨by rw [HE.out]; rfl, rfl⟩
theorem nok_nilQ : NOk [] := ⟨fun s hs => absurd hs (by simp), fun i j hi => absurd hi (by simp), by simp⟩
/-- what New gives -/
theorem New_Q (kd vr : Int) (w : World) : Calls Tryd.prog 19 #[.int .i64 kd, .int .i64 vr] w fun e w' => (wrongB kd vr = true ∧ e = .returned (.tuple #[.pointer none, .int .i64 2]) ∧ w = w') ∨ (wrongB kd vr = false ∧ ∃ q bs, e = .returned (.tuple #[.pointer (some ⟨q, 0, none⟩), .int .i64 0]) ∧ MT w.heap.size bs w' q kd.toNat vr.toNat [] ∧ Fr [] w w') := by
  have HW := Lib.hid (wrong_Q kd vr w)
  cases hwr : wrongB kd vr with
  | true =>
    rw [hwr] at HW
    go_enter Tryd.func19, Tryd.ntmps19
    go_wp2_with fail
    refine HW.out.mono ?_
    rintro e w' ⟨rfl, rfl⟩
    go_wp2_with fail
    go_ret2
    exact .inl ⟨trivial, rfl, rfl⟩
  | false =>
    rw [hwr] at HW
    have HK : Hid ((kd.toNat : Int) = kd ∧ (vr.toNat : Int) = vr) := Lib.hid (by have := of_decide_eq_false hwr; omega)
    go_enter Tryd.func19, Tryd.ntmps19
    go_wp2_with fail
    refine HW.out.mono ?_
    rintro e w' ⟨rfl, rfl⟩
    go_wp2_with fail
    go_ret2
    refine .inr ⟨trivial, w.heap.size, _, rfl, ⟨.slice none 0 0, ⟨?_, World.ownsRow_nil _ _ _ _, nok_nilQ, Nat.le_refl _⟩, rfl⟩, (Fr.refl _ _).alloc _⟩
    rw [HK.out.1, HK.out.2]
    exact heap_alloc_new w _
theorem lenN_take {N : Nms} {k : Nat} (h : k < N.length) : lenN (N.take (k + 1)) = lenN (N.take k) + (if N.getD k [] = [] then 0 else 1) := by
  unfold lenN
  rw [List.take_succ_eq_append_getElem h, List.countP_append, List.countP_cons, List.countP_nil]
  rw [List.getD_eq_getElem?_getD, List.getElem?_eq_getElem h]
  by_cases hx : N[k] = []
  · simp [hx]
  · simp [hx]
/-- names as opaque values: k < N.length: the cell, and whether it is empty -/
theorem name_cell {w : World} {B q kd vr n c : Nat} {a : Option Addr} {N : Nms} (h : MTH w B q kd vr (.slice a n c) N) {k : Nat} (hk : k < N.length) : ∃ g S, a = some ⟨g, 0, none⟩ ∧ w.cell? ⟨g, k, none⟩ = some (.string S) ∧ Str (N.getD k []) = .string S ∧ S.toList = N.getD k [] ∧ S = ⟨(N.getD k []).toArray⟩ ∧ w.frozen? ⟨g, k, none⟩ = false := by
  obtain ⟨g, c', e, hc, hf⟩ := own_strC h.nms hk
  simp only [Value.slice.injEq] at e
  exact ⟨g, ⟨(N.getD k []).toArray⟩, e.1, hc, rfl, ByteArray.toList_mk _, rfl, hf⟩
set_option maxRecDepth 100000 in
theorem Len_Q (B : Nat) (bs : List Nat) (w : World) (q kd vr : Nat) (N : Nms) (h : MT B bs w q kd vr N) : Calls Tryd.prog 21 #[.pointer (some ⟨q, 0, none⟩)] w fun e w' => e = .returned (.int .i64 (lenN N)) ∧ w = w' := by
  obtain ⟨v, h, -⟩ := h
  obtain ⟨x0, x1, x2⟩ := trioQ h.obj
  obtain ⟨a, c, rfl⟩ := own_slR h.nms
  have H := Lib.hid h
  have hl200 := h.ok.len
  clear h
  obtain ⟨n, hn⟩ : ∃ n, n = N.length := ⟨_, rfl⟩
  rw [← hn] at x2 hl200
  have HN := Lib.hid hn
  clear hn
  go_enter Tryd.func21, Tryd.ntmps21
  go_wp2_with fail
  go_loopw [3, 4] (fun s j wr => ∃ k : Nat, k ≤ n ∧ j = .int .i64 k ∧ s = .int .i64 (lenN (N.take k) : Nat) ∧ w = wr) (fun _ j _ => n - (intOf j).toNat)
  case atStart => exact ⟨0, by omega, rfl, rfl, rfl⟩
  case round =>
    obtain ⟨k, hk, rfl, rfl, rfl⟩ := hrel
    by_cases hlt : k < n
    · obtain ⟨g, S, rfl, hc, -, hS, -, -⟩ := name_cell H.out (k := k) (by rw [← HN.out]; exact hlt)
      have hki : (k : Int) < (n : Int) := by omega
      have hk0 : (0 : Int) ≤ (k : Int) := by omega
      obtain ⟨z, hz⟩ : ∃ z, z = lenN (N.take k) := ⟨_, rfl⟩
      have hz200 : z ≤ 200 := by rw [hz]; have := lenN_le (N.take k); rw [List.length_take] at this; omega
      have hst := lenN_take (N := N) (k := k) (by rw [← HN.out]; exact hlt)
      rw [← hz] at hst ⊢
      by_cases he : N.getD k [] = []
      · rw [if_pos he] at hst
        have h1 : S.toList.isEmpty = true := by rw [hS, he]; rfl
        have h2 : S.toList = [] := by rw [hS, he]
        have HST := Lib.hid hst
        clear hS hz he hst
        go_wp2_with fail
        go_roundw
        case rel => exact ⟨k + 1, by omega, by go_num, by rw [HST.out]; go_num, by simp⟩
        case measure => simp [intOf] <;> omega
      · rw [if_neg he] at hst
        have h1 : S.toList.isEmpty = false := by rw [hS]; simpa using he
        have h2 : ¬ S.toList = [] := by rw [hS]; exact he
        have HST := Lib.hid hst
        clear hS hz he hst
        go_wp2_with fail
        go_roundw
        case rel => exact ⟨k + 1, by omega, by go_num, by rw [HST.out]; go_num, by simp⟩
        case measure => simp [intOf] <;> omega
    · have hki : ¬ (k : Int) < (n : Int) := by omega
      have HE : Hid (N.take k = N) := Lib.hid (List.take_of_length_le (by rw [← HN.out]; omega))
      go_wp2_with fail
      go_ret
      exact ⟨by rw [HE.out]; rfl, rfl⟩
theorem Name_Q (B : Nat) (bs : List Nat) (w : World) (q kd vr : Nat) (N : Nms) (id : Int) (h : MT B bs w q kd vr N) : Calls Tryd.prog 44 #[.pointer (some ⟨q, 0, none⟩), .int .i64 id] w fun e w' => e = .returned (Str (nameN N id)) ∧ w = w' := by
  obtain ⟨v, h, -⟩ := h
  obtain ⟨x0, x1, x2⟩ := trioQ h.obj
  obtain ⟨a, c, rfl⟩ := own_slR h.nms
  have H := Lib.hid h
  clear h
  obtain ⟨n, hn⟩ : ∃ n, n = N.length := ⟨_, rfl⟩
  rw [← hn] at x2
  by_cases h0 : id < 0
  · have HM : Hid (nameN N id = []) := Lib.hid (by unfold nameN; rw [if_pos h0])
    clear hn
    go_enter Tryd.func44, Tryd.ntmps44
    go_wp2_with fail
    go_ret
    exact ⟨by rw [HM.out]; rfl, rfl⟩
  obtain ⟨k, rfl⟩ : ∃ k : Nat, id = k := ⟨id.toNat, by omega⟩
  have HM : Hid (nameN N (k : Int) = N.getD k []) := Lib.hid (by unfold nameN; rw [if_neg h0, Int.toNat_natCast])
  have hk0 : (0 : Int) ≤ (k : Int) := by omega
  by_cases hk : k < n
  · obtain ⟨g, S, rfl, hc, hS, -, -, -⟩ := name_cell H.out (k := k) (by rw [← hn]; exact hk)
    have hki : ¬ (n : Int) ≤ (k : Int) := by omega
    have hki2 : (k : Int) < (n : Int) := by omega
    have HS := Lib.hid hS
    clear hn hS
    go_enter Tryd.func44, Tryd.ntmps44
    go_wp2_with fail
    go_ret
    exact ⟨by rw [HM.out, HS.out]; rfl, rfl⟩
  · have hki : (n : Int) ≤ (k : Int) := by omega
    have HZ : Hid (nameN N (k : Int) = []) := Lib.hid (by rw [HM.out, List.getD_eq_getElem?_getD, List.getElem?_eq_none (by omega)]; rfl)
    clear hn
    go_enter Tryd.func44, Tryd.ntmps44
    go_wp2_with fail
    go_ret
    exact ⟨by rw [HZ.out]; rfl, rfl⟩
/-- the document's answer: the number, or -1 -/
def findZ (N : Nms) (l : List UInt8) : Int := match findN N l with | some i => (i : Int) | none => -1
theorem findN_first {N : Nms} {l : List UInt8} (hl : l ≠ []) {k : Nat} (hk : k < N.length) (h : N.getD k [] = l) (hb : ∀ j, j < k → N.getD j [] ≠ l) : findN N l = some k := by
  unfold findN
  rw [if_neg hl, List.findIdx?_eq_some_iff_getElem]
  have e : ∀ j (hj : j < N.length), N.getD j [] = N[j] := fun j hj => by rw [List.getD_eq_getElem?_getD, List.getElem?_eq_getElem hj]; rfl
  refine ⟨hk, by rw [← e k hk, h]; simp, fun j hj => ?_⟩
  have := hb j hj
  rw [e j (by omega)] at this
  simpa using this
theorem findN_no {N : Nms} {l : List UInt8} (hb : ∀ j, j < N.length → N.getD j [] ≠ l) : findN N l = none := by
  cases hf : findN N l with
  | none => rfl
  | some i =>
    obtain ⟨h1, h2⟩ := findN_some hf
    exact absurd h2 (hb i (getD_ne (h2 ▸ h1)))
set_option maxRecDepth 100000 in
theorem Find_Q (B : Nat) (bs : List Nat) (w : World) (q kd vr : Nat) (N : Nms) (l : List UInt8) (h : MT B bs w q kd vr N) : Calls Tryd.prog 43 #[.pointer (some ⟨q, 0, none⟩), .string ⟨l.toArray⟩] w fun e w' => e = .returned (.int .i64 (findZ N l)) ∧ w = w' := by
  obtain ⟨v, h, -⟩ := h
  obtain ⟨x0, x1, x2⟩ := trioQ h.obj
  obtain ⟨a, c, rfl⟩ := own_slR h.nms
  have H := Lib.hid h
  have hl200 := h.ok.len
  clear h
  obtain ⟨n, hn⟩ : ∃ n, n = N.length := ⟨_, rfl⟩
  rw [← hn] at x2 hl200
  have HN := Lib.hid hn
  clear hn
  obtain ⟨T, hT⟩ : ∃ T, T = ByteArray.mk l.toArray := ⟨_, rfl⟩
  have HT : Hid (T.toList = l) := Lib.hid (by rw [hT]; exact ByteArray.toList_mk l)
  rw [← hT]
  have HT2 := Lib.hid hT
  clear hT
  go_enter Tryd.func43, Tryd.ntmps43
  go_wp2_with fail
  go_loopw [5] (fun j wr => ∃ k : Nat, k ≤ n ∧ j = .int .i64 k ∧ (l ≠ [] → ∀ j, j < k → N.getD j [] ≠ l) ∧ w = wr) (fun j _ => n - (intOf j).toNat)
  case atStart => exact ⟨0, by omega, rfl, fun _ j hj => absurd hj (by omega), rfl⟩
  case round =>
    obtain ⟨k, hk, rfl, hno, rfl⟩ := hrel
    by_cases hlt : k < n
    · obtain ⟨g, S, rfl, hc, -, hS, hS2, -⟩ := name_cell H.out (k := k) (by rw [← HN.out]; exact hlt)
      have hki : (k : Int) < (n : Int) := by omega
      have hk0 : (0 : Int) ≤ (k : Int) := by omega
      have HNO := Lib.hid hno
      have HS := Lib.hid hS
      have HS2 := Lib.hid hS2
      clear hno hS2
      by_cases he : N.getD k [] = l
      · have g1 : S.toList = T.toList := by rw [hS, HT.out]; exact he
        by_cases hl0 : l = []
        · have g2 : T.toList.isEmpty = true := by rw [HT.out, hl0]; rfl
          have HL0 := Lib.hid hl0
          clear hS he hl0
          go_wp2_with fail
          go_roundw
          case rel => exact ⟨k + 1, by omega, by go_num, fun h => absurd HL0.out h, by simp⟩
          case measure => simp [intOf] <;> omega
        · have g2 : T.toList.isEmpty = false := by rw [HT.out]; simpa using hl0
          have HF : Hid (findN N l = some k) := Lib.hid (findN_first hl0 (by rw [← HN.out]; exact hlt) he (HNO.out hl0))
          clear hS he hl0
          go_wp2_with fail
          go_ret
          exact ⟨by unfold findZ; rw [HF.out]; rfl, rfl⟩
      · have g1 : ¬ S.toList = T.toList := by rw [hS, HT.out]; exact he
        have HE := Lib.hid he
        clear hS he
        go_wp2_with fail
        go_roundw
        case rel => exact ⟨k + 1, by omega, by go_num, fun h j hj => by
          by_cases hjk : j < k
          · exact HNO.out h j hjk
          · obtain rfl : j = k := by omega
            exact HE.out, by simp⟩
        case measure => simp [intOf] <;> omega
    · have hki : ¬ (k : Int) < (n : Int) := by omega
      have HF : Hid (findN N l = none) := Lib.hid (by
        by_cases hl0 : l = []
        · unfold findN; rw [if_pos hl0]
        · exact findN_no fun j hj => hno hl0 j (by have := HN.out; omega))
      clear hno
      go_wp2_with fail
      go_ret
      exact ⟨by unfold findZ; rw [HF.out]; rfl, rfl⟩
end Go.Proofs.YtlckhfjkdahfpaaDoor

/- Tokens: the document's Intern and Forget. -/
namespace Go.Proofs.YtlckhfjkdahfpaaDoor
open Go.RowKit Go.Maps
attribute [local go_sem ↓] Go.wp_at_zero Go.wp_at_succ
attribute [local go_sem] Oper.semAt_some
set_option maxRecDepth 100000 in
set_option maxHeartbeats 3200000 in
theorem Intern_Q (B : Nat) (bs : List Nat) (w : World) (q kd vr : Nat) (N : Nms) (l : List UInt8) (h : MT B bs w q kd vr N) (hl : l.length ≤ 140737488351300) :
    Calls Tryd.prog 42 #[.pointer (some ⟨q, 0, none⟩), .string ⟨l.toArray⟩] w fun e w' => e = .returned (.tuple #[.int .i64 (internI N l : Nat), .int .i64 (internE N l)]) ∧ ∃ bs', MT B bs' w' q kd vr (internS N l) ∧ Stp bs w bs' w' := by
  have HMT := Lib.hid h
  have HG := Lib.hid (GoodName6 l hl w)
  obtain ⟨S, hS⟩ : ∃ S, S = ByteArray.mk l.toArray := ⟨_, rfl⟩
  have HFI := Lib.hid (fun w' (hf : Fr [] w w') => Find_Q B bs w' q kd vr N l (h.keep hf))
  rw [← hS] at HG HFI ⊢
  have HSS := Lib.hid hS
  clear h hS
  cases hg : goodB l with
  | false =>
    rw [hg] at HG
    have HI : Hid (internI N l = 0 ∧ internE N l = 60 ∧ internS N l = N) := Lib.hid ⟨by unfold internI; rw [if_pos hg], by unfold internE; rw [if_pos hg], by unfold internS; rw [if_pos hg]⟩
    clear hg
    go_enter Tryd.func42, Tryd.ntmps42
    go_wp2_with fail
    refine HG.out.mono ?_
    rintro e w' ⟨rfl, hf⟩
    have HF := Lib.hid hf
    clear hf
    go_wp2_with fail
    go_ret2
    exact ⟨by rw [HI.out.1, HI.out.2.1]; rfl, bs, by rw [HI.out.2.2]; exact HMT.out.keep HF.out, (Stp.refl _ _).keepR HF.out⟩
  | true =>
    rw [hg] at HG
    cases hf : findN N l with
    | some i =>
      have HI : Hid (internI N l = i ∧ internE N l = 0 ∧ internS N l = N) := Lib.hid ⟨by unfold internI; rw [if_neg (by rw [hg]; decide), hf], by unfold internE; rw [if_neg (by rw [hg]; decide), hf]; rfl, by unfold internS; rw [if_neg (by rw [hg]; decide), hf]⟩
      rw [show findZ N l = (i : Int) by unfold findZ; rw [hf]] at HFI
      have hi0 : (0 : Int) ≤ (i : Int) := by omega
      clear hg hf
      go_enter Tryd.func42, Tryd.ntmps42
      go_wp2_with fail
      refine HG.out.mono ?_
      rintro e w' ⟨rfl, hf⟩
      have HF := Lib.hid hf
      have HFD := Lib.hid (HFI.out w' hf)
      clear hf
      go_wp2_with fail
      refine HFD.out.mono ?_
      rintro e w2 ⟨rfl, rfl⟩
      go_wp2_with fail
      go_ret2
      exact ⟨by rw [HI.out.1, HI.out.2.1]; rfl, bs, by rw [HI.out.2.2]; exact HMT.out.keep HF.out, (Stp.refl _ _).keepR HF.out⟩
    | none =>
      rw [show findZ N l = -1 by unfold findZ; rw [hf]] at HFI
      have HGL := Lib.hid hg
      have HFN := Lib.hid hf
      obtain ⟨ln, hln⟩ : ∃ ln, ln = lenN N := ⟨_, rfl⟩
      by_cases h200 : 200 ≤ ln
      · have h2i : (200 : Int) ≤ (ln : Int) := by omega
        have HI : Hid (internI N l = 0 ∧ internE N l = 66 ∧ internS N l = N) := Lib.hid ⟨by unfold internI; rw [if_neg (by rw [hg]; decide), hf]; exact if_pos (by omega), by unfold internE; rw [if_neg (by rw [hg]; decide), hf, if_neg (by decide), if_pos (by omega)], by unfold internS; rw [if_neg (by rw [hg]; decide), hf]; exact if_pos (by omega)⟩
        have HLN := Lib.hid hln
        clear hg hf hln h200
        go_enter Tryd.func42, Tryd.ntmps42
        go_wp2_with fail
        refine HG.out.mono ?_
        rintro e w' ⟨rfl, hf⟩
        have HF := Lib.hid hf
        have HFD := Lib.hid (HFI.out w' hf)
        have HL := Lib.hid (Len_Q B bs w' q kd vr N (HMT.out.keep hf))
        rw [← HLN.out] at HL
        clear hf
        go_wp2_with fail
        refine HFD.out.mono ?_
        rintro e w2 ⟨rfl, rfl⟩
        go_wp2_with fail
        refine HL.out.mono ?_
        rintro e w2 ⟨rfl, rfl⟩
        go_wp2_with fail
        go_ret2
        exact ⟨by rw [HI.out.1, HI.out.2.1]; rfl, bs, by rw [HI.out.2.2]; exact HMT.out.keep HF.out, (Stp.refl _ _).keepR HF.out⟩
      · have h2i : ¬ (200 : Int) ≤ (ln : Int) := by omega
        have HI : Hid (internI N l = lowN N ∧ internE N l = 0 ∧ internS N l = setN N (lowN N) l) := Lib.hid ⟨by unfold internI; rw [if_neg (by rw [hg]; decide), hf]; exact if_neg (by omega), by unfold internE; rw [if_neg (by rw [hg]; decide), hf, if_neg (by decide), if_neg (by omega)], by unfold internS; rw [if_neg (by rw [hg]; decide), hf]; exact if_neg (by omega)⟩
        have HLN := Lib.hid hln
        have HL2 : Hid (lenN N < 200) := Lib.hid (by omega)
        obtain ⟨k, hkk⟩ : ∃ k, k = lowN N := ⟨_, rfl⟩
        have hok : NOk N := by obtain ⟨v, h, -⟩ := HMT.out; exact h.ok
        have hk200 : k ≤ 200 := by rw [hkk]; exact Nat.le_trans (lowN_le N) hok.len
        have HKK := Lib.hid hkk
        have HOK := Lib.hid hok
        clear hg hf hln h200 hkk hok
        go_enter Tryd.func42, Tryd.ntmps42
        go_wp2_with fail
        refine HG.out.mono ?_
        rintro e w1 ⟨rfl, hf⟩
        have HF := Lib.hid hf
        have HFD := Lib.hid (HFI.out w1 hf)
        have HM1 := Lib.hid (HMT.out.keep hf)
        have HL := Lib.hid (Len_Q B bs w1 q kd vr N (HMT.out.keep hf))
        rw [← HLN.out] at HL
        clear hf
        go_wp2_with fail
        refine HFD.out.mono ?_
        rintro e w2 ⟨rfl, rfl⟩
        go_wp2_with fail
        refine HL.out.mono ?_
        rintro e w2 ⟨rfl, rfl⟩
        go_wp2_with fail
        go_loopw [6] (fun j wr => ∃ i : Nat, i ≤ k ∧ j = .int .i64 i ∧ w1 = wr) (fun j _ => k - (intOf j).toNat)
        case atStart => exact ⟨0, by omega, rfl, rfl⟩
        case round =>
          obtain ⟨i, hik, rfl, rfl⟩ := hrel
          have HNM := Lib.hid (Name_Q B bs w1 q kd vr N (i : Int) HM1.out)
          have hnn : nameN N (i : Int) = N.getD i [] := by unfold nameN; rw [if_neg (by omega), Int.toNat_natCast]
          rw [hnn] at HNM
          have hS2 : (ByteArray.mk (N.getD i []).toArray).toList = N.getD i [] := ByteArray.toList_mk _
          have HStr : Hid (Str (N.getD i []) = .string ⟨(N.getD i []).toArray⟩) := Lib.hid rfl
          rw [HStr.out] at HNM
          generalize ByteArray.mk (N.getD i []).toArray = T at HNM hS2 HStr
          by_cases hlt : i < k
          · have hne := lowN_used (N := N) (i := i) (by rw [← HKK.out]; exact hlt)
            have h1 : T.toList.isEmpty = false := by rw [hS2]; simpa using hne
            have h2 : ¬ T.toList = [] := by rw [hS2]; exact hne
            clear hnn hS2 hne
            go_wp2_with fail
            refine HNM.out.mono ?_
            rintro e w2 ⟨rfl, rfl⟩
            go_wp2_with fail
            go_roundw
            case rel => exact ⟨i + 1, by omega, by go_num, by simp⟩
            case measure => simp [intOf] <;> omega
          · obtain rfl : i = k := by omega
            have he := lowN_free N
            rw [← HKK.out] at he
            have h1 : T.toList.isEmpty = true := by rw [hS2, he]; rfl
            have h2 : T.toList = [] := by rw [hS2, he]
            clear hnn hS2 he
            go_wp2_with fail
            refine HNM.out.mono ?_
            rintro e w2 ⟨rfl, rfl⟩
            clear HNM HStr
            obtain ⟨v, hh, hbs⟩ := HM1.out
            obtain ⟨a, c, rfl⟩ := own_slR hh.nms
            have HBS := Lib.hid hbs
            have HH := Lib.hid hh
            obtain ⟨x0, x1, x2⟩ := trioQ hh.obj
            obtain ⟨m, hm⟩ : ∃ m, m = N.length := ⟨_, rfl⟩
            rw [← hm] at x2
            have hm200 : m ≤ 200 := by rw [hm]; exact HOK.out.len
            have HMM := Lib.hid hm
            have HOFF := Lib.hid hh.off
            have HNM1 := Lib.hid (show w1.ownsRow B 9 1 (.slice a m c) m (N.map Str) by rw [hm]; exact hh.nms)
            clear hh hm hbs
            go_upto_if 31 with fail
            clear h1 h2
            go_cut [] (fun wx => ∃ v', wx.heap[q]? = some (.cells #[.int .i64 kd, .int .i64 vr, v'] 59) ∧ wx.ownsRow B 9 1 v' (roomN N).length ((roomN N).map Str) ∧ (∀ g, v'.ownBlock = some g → g ∈ bs ∨ w.heap.size ≤ g) ∧ Fr bs w wx)
            case first =>
              by_cases hkm : i = m
              · have hki : ((i : Int) == (m : Int)) = true := by rw [hkm]; exact beq_self_eq_true _
                have HRN : Hid (roomN N = N ++ [[]]) := Lib.hid (by unfold roomN; rw [if_pos (by rw [← HKK.out, ← HMM.out]; exact hkm)])
                have hfx : Fr [] w1 (w1.alloc (.cells #[.string ⟨#[]⟩] 9)) := (Fr.refl [] _).alloc _
                have hnews : ∀ a, some (⟨w1.heap.size, 0, none⟩ : Addr) = some a → ∀ j u, [Value.string ⟨#[]⟩][j]? = some u → (w1.alloc (.cells #[.string ⟨#[]⟩] 9)).cell? (a.add j) = some u := by
                  intro a ha j u hu
                  cases ha
                  have hz := heap_alloc_new w1 (.cells #[.string ⟨#[]⟩] 9)
                  rw [addT, Nat.zero_add, cell_of_row _ _ j _ _ _ hz]
                  simpa using hu
                have HNEWS := Lib.hid hnews
                have HOX := Lib.hid (own_fr HNM1.out hfx (by simp))
                have HFX := Lib.hid hfx
                have HBX : Hid (B ≤ (w1.alloc (.cells #[.string ⟨#[]⟩] 9)).heap.size) := Lib.hid (Nat.le_trans (Nat.le_trans HH.out.bq (Nat.le_of_lt (Array.getElem?_eq_some_iff.1 HH.out.obj).1)) hfx.size)
                have HOBX := Lib.hid (hfx.obj HH.out.obj (by simp))
                rw [← HMM.out] at HOBX HOFF HBS
                clear hnews hfx hkm
                go_wp2_with (at_builtin; refine wpList_appS _ rfl _ _ 23 rfl B 9 _ 1 16 Tryd.underlying23 infoS rfl (by decide) (.slice a m c) m (N.map Str) rfl HOX.out (some ⟨w1.heap.size, 0, none⟩) 1 1 [.string ⟨#[]⟩] rfl rfl HNEWS.out (fun h => by cases h) (by simp [Value.oneCell']) (by unfold maxLen; omega) (by omega) HBX.out ?_; intro v' w8 happ; obtain ⟨a6, c6, e6⟩ := own_slR happ.own; subst e6; have HAPP := Lib.hid happ; have hob := (app_frZ happ).obj HOBX.out (fun hm => HOFF.out (by simpa using hm)); obtain ⟨z0, z1, z2⟩ := trioQ hob; have z2f := frozen_of_row _ _ 2 _ _ hob; have HOB8 := Lib.hid hob; clear happ hob)
                go_meet
                obtain ⟨v', hvv⟩ : ∃ v', v' = Value.slice a6 (m + 1) c6 := ⟨_, rfl⟩
                rw [← hvv] at HAPP ⊢
                have hf8 := app_frZ HAPP.out
                have hft : Fr [q] w8 (w8.setCell ⟨q, 2, none⟩ v') := (Fr.refl [q] w8).setCell (by simp) _
                have hwq : ∀ g, (Value.slice a m c).ownBlock = some g → g ∈ bs := fun g hg => by rw [HBS.out]; exact mtB_v hg
                refine ⟨v', by rw [heap_setCell_same w8 q 2 _ _ _ HOB8.out]; rfl, ?_, fun g hg => ?_, ?_⟩
                · rw [HRN.out, List.length_append, List.map_append, ← HMM.out]
                  exact own_fr HAPP.out.own hft (fun g hg hm => by
                    simp at hm
                    subst hm
                    exact own_ty HAPP.out.own HOB8.out (by decide) hg)
                · rcases HAPP.out.blk with hb | ⟨g', hb, hg'⟩
                  · rw [hb] at hg
                    exact .inl (hwq g hg)
                  · rw [hb] at hg
                    cases hg
                    have h1 := HFX.out.size
                    have h2 := HF.out.size
                    exact .inr (by omega)
                · exact (((HF.out.mono (by simp)).trans (HFX.out.mono (by simp))).trans (hf8.mono fun i hi _ => hwq i (by simpa using hi))).trans (hft.mono fun i hi _ => by simp at hi; rw [hi, HBS.out]; exact mtB_q ..)
              · have hki : ((i : Int) == (m : Int)) = false := by rw [beq_eq_false_iff_ne]; omega
                have HRN : Hid (roomN N = N) := Lib.hid (by unfold roomN; rw [if_neg (by rw [← HKK.out, ← HMM.out]; exact hkm)])
                clear hkm
                go_wp2_with fail
                go_meet
                exact ⟨.slice a N.length c, HH.out.obj, by rw [HRN.out]; exact HH.out.nms, fun g hg => .inl (by rw [HBS.out]; exact mtB_v hg), HF.out.mono (by simp)⟩
            case rest =>
              obtain ⟨v', hob, hnm, hvb, hfr⟩ := hcut
              have hkr : i < (roomN N).length := by rw [HKK.out]; exact roomN_lt N
              obtain ⟨r, hr⟩ : ∃ r, r = (roomN N).length := ⟨_, rfl⟩
              obtain ⟨g, c', rfl, hcl, hcf⟩ := own_strC hnm hkr
              rw [← hr] at hkr hnm hob
              have hne : g ≠ q := fun e => own_ty hnm hob (by decide) (by rw [e]; rfl)
              obtain ⟨z0, z1, z2⟩ := trioQ hob
              have hki : (i : Int) < (r : Int) := by omega
              have hk0 : (0 : Int) ≤ (i : Int) := by omega
              obtain ⟨ss, hss⟩ : ∃ ss, Str ((roomN N).getD i []) = Value.string ss := ⟨_, rfl⟩
              rw [hss] at hcl
              have HRR := Lib.hid hr
              have HOB := Lib.hid hob
              have HNM := Lib.hid hnm
              have HVB := Lib.hid hvb
              have HFR := Lib.hid hfr
              have HNE := Lib.hid hne
              clear hob hnm hvb hfr hr hne hss x0 x1 x2
              go_wp2_with fail
              go_ret2
              have hfs : Fr [g] wc (wc.setCell ⟨g, i, none⟩ (.string S)) := (Fr.refl [g] wc).setCell (by simp) _
              have hrl : r = (setN N (lowN N) l).length := by rw [HRR.out, ← roomN_set, List.length_set]
              have h1 := own_set2 HNM.out i (.string S)
              have e1 : ((roomN N).map Str).set i (.string S) = (setN N (lowN N) l).map Str := by
                rw [HSS.out, HKK.out, ← roomN_set, List.map_set]
                rfl
              rw [e1] at h1
              refine ⟨by rw [HI.out.1, HI.out.2.1, ← HKK.out]; rfl, mtB q (.slice (some ⟨g, 0, none⟩) r c'), ?_, HFR.out.next hfs (fun j hj hlt => ?_), fun j hj => ?_⟩
              · rw [HI.out.2.2]
                exact ⟨_, ⟨hfs.obj HOB.out (by simp; exact fun e => HNE.out e.symm), by rw [← hrl]; exact h1, HOK.out.set HGL.out HFN.out HL2.out, HH.out.bq⟩, rfl⟩
              · simp at hj
                subst hj
                rcases HVB.out j rfl with h | h
                · exact h
                · omega
              · rcases mtB_cases hj with rfl | h
                · left; rw [HBS.out]; exact mtB_q ..
                · exact HVB.out j h
set_option maxRecDepth 100000 in
theorem Forget_Q (B : Nat) (bs : List Nat) (w : World) (q kd vr : Nat) (N : Nms) (id : Int) (h : MT B bs w q kd vr N) :
    Calls Tryd.prog 45 #[.pointer (some ⟨q, 0, none⟩), .int .i64 id] w fun e w' => e = .returned (.int .i64 (forgetE N id)) ∧ ∃ bs', MT B bs' w' q kd vr (forgetS N id) ∧ Stp bs w bs' w' := by
  have HNM := Lib.hid (Name_Q B bs w q kd vr N id h)
  have HMT := Lib.hid h
  clear h
  have HStr : Hid (Str (nameN N id) = .string ⟨(nameN N id).toArray⟩) := Lib.hid rfl
  have hS2 : (ByteArray.mk (nameN N id).toArray).toList = nameN N id := ByteArray.toList_mk _
  rw [HStr.out] at HNM
  generalize ByteArray.mk (nameN N id).toArray = T at HNM hS2 HStr
  by_cases hz : nameN N id = []
  · have HI : Hid (forgetE N id = 3 ∧ forgetS N id = N) := Lib.hid ⟨by unfold forgetE; rw [if_pos hz], by unfold forgetS; rw [if_pos hz]⟩
    have h1 : T.toList.isEmpty = true := by rw [hS2, hz]; rfl
    have h2 : T.toList = [] := by rw [hS2, hz]
    clear hS2 hz
    go_enter Tryd.func45, Tryd.ntmps45
    go_wp2_with fail
    refine HNM.out.mono ?_
    rintro e w2 ⟨rfl, rfl⟩
    go_wp2_with fail
    go_ret
    exact ⟨by rw [HI.out.1]; rfl, bs, by rw [HI.out.2]; exact HMT.out, Stp.refl _ _⟩
  · have h1 : T.toList.isEmpty = false := by rw [hS2]; simpa using hz
    have h2 : ¬ T.toList = [] := by rw [hS2]; exact hz
    have h0 : ¬ id < 0 := fun h => hz (by unfold nameN; rw [if_pos h])
    obtain ⟨k, rfl⟩ : ∃ k : Nat, id = k := ⟨id.toNat, by omega⟩
    have hnk : nameN N (k : Int) = N.getD k [] := by unfold nameN; rw [if_neg h0, Int.toNat_natCast]
    have hz' := hz
    rw [hnk] at hz'
    have HI : Hid (forgetE N k = 0 ∧ forgetS N k = N.set k []) := Lib.hid ⟨by unfold forgetE; rw [if_neg hz], by unfold forgetS; rw [if_neg hz, Int.toNat_natCast]⟩
    have hkl := getD_ne hz'
    obtain ⟨v, hh, hbs⟩ := HMT.out
    obtain ⟨a, c, rfl⟩ := own_slR hh.nms
    obtain ⟨x0, x1, x2⟩ := trioQ hh.obj
    obtain ⟨g, S, rfl, hc, -, -, -, hcf⟩ := name_cell hh hkl
    have HH := Lib.hid hh
    have HBS := Lib.hid hbs
    obtain ⟨n, hn⟩ : ∃ n, n = N.length := ⟨_, rfl⟩
    rw [← hn] at x2 hkl
    have hki : (k : Int) < (n : Int) := by omega
    have hk0 : (0 : Int) ≤ (k : Int) := by omega
    have HN := Lib.hid hn
    clear hS2 hz hz' hnk h0 hh hbs hn
    go_enter Tryd.func45, Tryd.ntmps45
    go_wp2_with fail
    refine HNM.out.mono ?_
    rintro e w2 ⟨rfl, rfl⟩
    go_wp2_with fail
    go_ret
    have hfs : Fr [g] w (w.setCell ⟨g, k, none⟩ (.string ⟨#[]⟩)) := (Fr.refl [g] w).setCell (by simp) _
    have h3 := own_set2 HH.out.nms k (.string ⟨#[]⟩)
    rw [show (N.map Str).set k (.string ⟨#[]⟩) = (N.set k []).map Str by rw [List.map_set]; rfl] at h3
    have hne : g ≠ q := fun e => HH.out.off (by rw [e]; rfl)
    refine ⟨by rw [HI.out.1]; rfl, bs, ?_, hfs.mono fun i hi _ => ?_, fun i hi => .inl hi⟩
    · rw [HI.out.2]
      exact ⟨_, ⟨hfs.obj HH.out.obj (by simp; exact fun e => hne e.symm), by rw [List.length_set]; exact h3, HH.out.ok.free k, HH.out.bq⟩, HBS.out⟩
    · simp at hi; rw [hi, HBS.out]; exact mtB_v rfl
end Go.Proofs.YtlckhfjkdahfpaaDoor
