/- Tokens: the map of names, in memory. -/
import Derived.Test.YtlckhfjkdahfpaaDoorTkA
import Derived.Maps.Own
import Derived.Maps.OwnSet
import Derived.Maps.Views
import Derived.StringKeys
import Derived.Test.YtlckhfjkdahfpaaDoorTkQ
import Derived.Test.YtlckhfjkdahfpaaDoorTkG
import Derived.Test.YtlckhfjkdahfpaaDoorRfE
import Derived.Test.YtlckhfjkdahfpaaDoorRfF
import Derived.Test.YtlckhfjkdahfpaaDoorMfF
namespace Go.Proofs.YtlckhfjkdahfpaaDoor
open Go.RowKit Go.Maps

theorem keyS : Keyed Tryd.prog 9 := string_keyed Tryd.underlying9
theorem zeroI1 (w : World) : (zeroValue 3).run Tryd.prog w = .ok (.int .i64 0) w := by kernel_rfl
theorem keyS_of (l : List UInt8) (h : l.length ≤ maxLen) : keyOf Tryd.prog 9 (.string ⟨l.toArray⟩) = some (.string l) := by
  have := WideMaps.keyOf_string_mk (P := Tryd.prog) Tryd.underlying9 (s := ⟨l.toArray⟩) (by rw [str_size]; exact h)
  rw [this]
/-- what the map holds -/
structure MapD (D : DataW Nat) (N : Nms) : Prop where
  tidy : Tidy D
  size : Maps.size D = lenN N
  has : ∀ s, Maps.has D (.string s) = (findN N s).isSome
  at' : ∀ s, D.atKey (.string s) (.lit (.int .i64 0)) = .lit (.int .i64 ((findN N s).getD 0 : Nat))
/-- the map of names, in block mb -/
def MapT (w : World) (mb : Nat) (N : Nms) : Prop := ∃ D : DataW Nat, w.ownsMap Tryd.prog 9 (plainElem Tryd.prog 3) mb (Maps.size D) D ∧ MapD D N
theorem MapD.lit {D : DataW Nat} {N : Nms} (h : MapD D N) {s : List UInt8} {v : Value} {ps : List MemPlace} (hv : plainElem (H := Nat) Tryd.prog 3 v = some (D.atKey (.string s) (.lit (.int .i64 0)), ps)) : v = .int .i64 ((findN N s).getD 0 : Nat) := by
  rw [h.at'] at hv
  obtain ⟨c, rfl, hc, -⟩ := plainElem_int_inv Tryd.underlying3 hv
  simp only [Prod.mk.injEq, DataW.lit.injEq, Lit.int.injEq] at hc
  rw [hc.1.2]
theorem MapT.look {w : World} {mb : Nat} {N : Nms} (h : MapT w mb N) (s : List UInt8) (hs : s.length ≤ maxLen) : (Instr.lookup 66 (.map (some mb)) (.string ⟨s.toArray⟩) true).run Tryd.prog w = .ok (.tuple #[.int .i64 ((findN N s).getD 0 : Nat), .bool (findN N s).isSome]) w := by
  obtain ⟨D, ho, hD⟩ := h
  obtain ⟨v, ps, hrun, hv⟩ := ho.look_ok keyS Tryd.underlying66 (zeroI1 w) (zd := .lit (.int .i64 0)) (zp := []) (plainElem_int Tryd.underlying3 (by decide)) (keyS_of s hs)
  rw [hrun, hD.has, hD.lit hv]
theorem MapT.len {w : World} {mb : Nat} {N : Nms} (h : MapT w mb N) (ty : TypeId) : (Builtin.len_ #[66] ty #[.map (some mb)]).run Tryd.prog w = .ok (.int .i64 (lenN N)) w := by
  obtain ⟨D, ho, hD⟩ := h
  rw [ho.len Tryd.underlying66 ty, hD.size]
theorem MapT.lt {w : World} {mb : Nat} {N : Nms} (h : MapT w mb N) : mb < w.heap.size := by
  obtain ⟨D, h, -⟩ := h
  exact h.lt
theorem MapT.fr {S : List Nat} {w w' : World} {mb : Nat} {N : Nms} (h : MapT w mb N) (hf : Fr S w w') (hS : mb ∉ S) : MapT w' mb N := by
  obtain ⟨D, ⟨es, clock, hb, F, hs, hD⟩, h2⟩ := h
  exact ⟨D, ⟨es, clock, hf.obj hb hS, F, hs, hD⟩, h2⟩
theorem MapT.tight {w : World} {mb n : Nat} {D : DataW Nat} (h : w.ownsMap Tryd.prog 9 (plainElem Tryd.prog 3) mb n D) : w.ownsMap Tryd.prog 9 (plainElem Tryd.prog 3) mb (Maps.size D) D := by
  obtain ⟨es, clock, hb, F, hs, hD⟩ := h
  refine ⟨es, clock, hb, F, ?_, hD⟩
  rw [hD]
  simp [Maps.size, length_sorted]
theorem MapT.made (w : World) (n : Nat) : MapT (w.alloc (.map #[] 0)) w.heap.size (List.replicate n []) := by
  have hl : lenN (List.replicate n []) = 0 := by unfold lenN; rw [List.countP_eq_zero]; intro x hx; rw [(List.mem_replicate.1 hx).2]; simp
  have hf : ∀ s, findN (List.replicate n []) s = none := fun s => by
    cases h : findN (List.replicate n []) s with
    | none => rfl
    | some i =>
      obtain ⟨h1, h2⟩ := findN_some h
      have : ∀ i, (List.replicate n ([] : List UInt8)).getD i [] = [] := fun i => by
        rw [List.getD_eq_getElem?_getD, List.getElem?_replicate]
        split <;> rfl
      rw [this] at h2
      exact absurd h2.symm h1
  refine ⟨.map [], World.ownsMap_made _ _ _ _, ⟨tidy_empty, by rw [hl]; rfl, fun s => by rw [hf]; rfl, fun s => by rw [hf]; rfl⟩⟩
/-- a new name's number is laid: whatever number -/
theorem MapT.putK {w : World} {mb : Nat} {N N' : Nms} (h : MapT w mb N) {s : List UInt8} {k : Nat} (hk : k ≤ 1000) (hs : s.length ≤ 40) (hf : findN N s = none) (hl : lenN N ≤ 1000) (hlen : lenN N' = lenN N + 1) (hfind : ∀ x, findN N' x = if x = s then some k else findN N x) : ∃ w', (Instr.mapUpdate 66 (.map (some mb)) (.string ⟨s.toArray⟩) (.int .i64 k)).run Tryd.prog w = .ok () w' ∧ Fr [mb] w w' ∧ MapT w' mb N' := by
  obtain ⟨D, ho, hD⟩ := h
  obtain ⟨w', hrun, hown, hgr⟩ := ho.update keyS Tryd.underlying66 (by rw [hD.size]; unfold maxLen; omega) (keyS_of s (by unfold maxLen; omega)) (plainElem_int (H := Nat) (a := ((k : Nat) : Int)) Tryd.underlying3 (by simp [Lit.wf, IntKind.min, IntKind.max, IntKind.signed, IntKind.bits]; omega))
  have hlit : WideAt.IsKeyLit (.string s) := by trivial
  refine ⟨w', hrun, Fr.of_grown hgr _ (by intro j hj _; cases hj; simp), _, MapT.tight hown, ⟨hD.tidy.put hlit _, ?_, fun x => ?_, fun x => ?_⟩⟩
  · rw [size_put hD.tidy, hD.has, hf, hD.size, hlen]
    rfl
  · rw [hfind]
    by_cases hx : x = s
    · subst hx
      rw [has_put_same hD.tidy.isMap hlit, if_pos rfl]
      rfl
    · rw [has_put_other (by simpa using hx), hD.has, if_neg hx]
  · rw [hfind]
    by_cases hx : x = s
    · subst hx
      rw [atKey_put_same hD.tidy.isMap hlit, if_pos rfl]
      rfl
    · rw [atKey_put_other (by simpa using hx), hD.at', if_neg hx]
/-- a name is taken away -/
theorem MapT.del {w : World} {mb : Nat} {N : Nms} (h : MapT w mb N) (hN : NOk N) {k : Nat} (hk : N.getD k [] ≠ []) (ty : TypeId) : ∃ w', (Builtin.delete_ #[66, 9] ty #[.map (some mb), .string ⟨(N.getD k []).toArray⟩]).run Tryd.prog w = .ok (.tuple #[]) w' ∧ Fr [mb] w w' ∧ MapT w' mb (N.set k []) := by
  obtain ⟨D, ho, hD⟩ := h
  have hlen : (N.getD k []).length ≤ 40 := (goodB_ne (hN.good _ (by rw [List.getD_eq_getElem?_getD, List.getElem?_eq_getElem (getD_ne hk)]; exact List.getElem_mem _) hk)).2
  obtain ⟨w', hrun, hown, hgr⟩ := ho.drop keyS Tryd.underlying66 (keyS_of (N.getD k []) (by unfold maxLen; omega)) ty
  refine ⟨w', hrun, ?_, _, MapT.tight hown, ⟨hD.tidy.del _, ?_, fun x => ?_, fun x => ?_⟩⟩
  · exact Fr.of_grown hgr.grown _ (by intro j hj _; cases hj; simp)
  · have h1 := size_del hD.tidy (k := .string (N.getD k []))
    have h2 := lenN_del hk
    rw [hD.has, (findN_iff hN).2 ⟨hk, rfl⟩, hD.size] at h1
    have h3 : Maps.size (D.del (.string (N.getD k []))) + 1 = lenN N := h1
    omega
  · rw [findN_del hN hk]
    by_cases hx : x = N.getD k []
    · rw [hx, has_del_same, if_pos rfl]
      rfl
    · rw [has_del_other (by simpa using hx), hD.has, if_neg hx]
  · rw [findN_del hN hk]
    by_cases hx : x = N.getD k []
    · rw [hx, atKey_del_same, if_pos rfl]
      rfl
    · rw [atKey_del_other (by simpa using hx), hD.at', if_neg hx]
end Go.Proofs.YtlckhfjkdahfpaaDoor

/- Tokens: a table in memory; New, Find, Name, Len. -/
namespace Go.Proofs.YtlckhfjkdahfpaaDoor
open Go.RowKit Go.Maps
attribute [local go_sem ↓] Go.wp_at_zero Go.wp_at_succ
attribute [local go_sem] Oper.semAt_some
/-- a table in memory -/
structure TBH (w : World) (B t p mb : Nat) (v : Value) (fb : List Nat) (s : RFS) (N : Nms) : Prop where
  obj : w.heap[t]? = some (.cells #[.pointer (some ⟨p, 0, none⟩), v, .map (some mb)] 68)
  file : RF B fb w p s
  nms : w.ownsRow B 9 1 v N.length (N.map Str)
  map : MapT w mb N
  ok : NOk N
  sz : s.sz = 42
  recs : s.R = recsT N
  bt : B ≤ t
  bm : B ≤ mb
  d1 : t ∉ fb
  d2 : mb ∉ fb
  d3 : t ≠ mb
  d4 : ∀ g, v.ownBlock = some g → g ≠ t ∧ g ≠ mb ∧ g ∉ fb
def tbB (t mb : Nat) (v : Value) (fb : List Nat) : List Nat := t :: mb :: (v.ownBlock.toList ++ fb)
theorem tbB_t (t mb : Nat) (v : Value) (fb : List Nat) : t ∈ tbB t mb v fb := by simp [tbB]
theorem tbB_m (t mb : Nat) (v : Value) (fb : List Nat) : mb ∈ tbB t mb v fb := by simp [tbB]
theorem tbB_v {t mb : Nat} {v : Value} {fb : List Nat} {g : Nat} (h : v.ownBlock = some g) : g ∈ tbB t mb v fb := by simp [tbB, h]
theorem tbB_f {t mb : Nat} {v : Value} {fb : List Nat} {g : Nat} (h : g ∈ fb) : g ∈ tbB t mb v fb := by simp [tbB, h]
theorem tbB_cases {t mb : Nat} {v : Value} {fb : List Nat} {g : Nat} (h : g ∈ tbB t mb v fb) : g = t ∨ g = mb ∨ v.ownBlock = some g ∨ g ∈ fb := by simpa [tbB] using h
/-- .. in the blocks bs -/
def TB (B : Nat) (bs : List Nat) (w : World) (t kd vr : Nat) (N : Nms) : Prop := ∃ p mb v fb s, TBH w B t p mb v fb s N ∧ s.kd = kd ∧ s.vr = vr ∧ bs = tbB t mb v fb
theorem TBH.lt {w : World} {B t p mb : Nat} {v : Value} {fb : List Nat} {s : RFS} {N : Nms} (h : TBH w B t p mb v fb s N) : ∀ i ∈ tbB t mb v fb, B ≤ i ∧ i < w.heap.size := by
  intro i hi
  rcases tbB_cases hi with rfl | rfl | hi | hi
  · exact ⟨h.bt, (Array.getElem?_eq_some_iff.1 h.obj).1⟩
  · exact ⟨h.bm, h.map.lt⟩
  · exact own_lt h.nms hi
  · exact h.file.lt i hi
theorem TBH.fr {S : List Nat} {w w' : World} {B t p mb : Nat} {v : Value} {fb : List Nat} {s : RFS} {N : Nms} (h : TBH w B t p mb v fb s N) (hf : Fr S w w') (hS : ∀ i ∈ tbB t mb v fb, i ∉ S) : TBH w' B t p mb v fb s N :=
  ⟨hf.obj h.obj (hS t (tbB_t ..)), h.file.fr hf fun i hi => hS i (tbB_f hi), own_fr h.nms hf fun g hg => hS g (tbB_v hg), h.map.fr hf (hS mb (tbB_m ..)), h.ok, h.sz, h.recs, h.bt, h.bm, h.d1, h.d2, h.d3, h.d4⟩
theorem TB.lt {B : Nat} {bs : List Nat} {w : World} {t kd vr : Nat} {N : Nms} (h : TB B bs w t kd vr N) : ∀ i ∈ bs, B ≤ i ∧ i < w.heap.size := by
  obtain ⟨p, mb, v, fb, s, h, -, -, rfl⟩ := h
  exact h.lt
theorem TB.fr {S : List Nat} {B : Nat} {bs : List Nat} {w w' : World} {t kd vr : Nat} {N : Nms} (h : TB B bs w t kd vr N) (hf : Fr S w w') (hS : ∀ i ∈ bs, i ∉ S) : TB B bs w' t kd vr N := by
  obtain ⟨p, mb, v, fb, s, h, h1, h2, rfl⟩ := h
  exact ⟨p, mb, v, fb, s, h.fr hf hS, h1, h2, rfl⟩
theorem TB.keep {B : Nat} {bs : List Nat} {w w' : World} {t kd vr : Nat} {N : Nms} (h : TB B bs w t kd vr N) (hf : Fr [] w w') : TB B bs w' t kd vr N := h.fr hf (by simp)
theorem infoS : (Tryd.prog.info? 9).map (fun i => (i.zero, i.size, i.bytes)) = some (some (.string ⟨#[]⟩), 1, 16) := by kernel_rfl
theorem makeS (n : Nat) (hn : n ≤ 1000000) (w : World) : (Instr.makeSlice 23 (.int .i64 (n : Int)) (.int .i64 (n : Int))).run Tryd.prog w = .ok (.slice (some ⟨w.heap.size, 0, none⟩) n n) (w.alloc (.cells (Array.replicate n (Value.string ⟨#[]⟩)) 9)) := by
  obtain ⟨i, hi, hz, hsz, hby⟩ := info_parts infoS
  have h := run_make (P := Tryd.prog) w 23 9 i (.string ⟨#[]⟩) Tryd.underlying23 hi hz .i64 .i64 n n (by omega) (by omega) (by rw [hby]; omega) (by omega)
  rw [h, hsz, Int.toNat_natCast]
  have e : madeCells (Value.string ⟨#[]⟩).cells (n * 1) = Array.replicate n (Value.string ⟨#[]⟩) := by
    apply Array.ext'
    apply List.ext_getElem?
    intro q
    by_cases hq : q < n <;> simp [madeCells, Value.cells, Nat.mod_one, List.getElem?_replicate, hq]
  rw [e]
theorem own_mkS (w : World) (n : Nat) (hn : n ≤ 1000000) : (w.alloc (.cells (Array.replicate n (Value.string ⟨#[]⟩)) 9)).ownsRow w.heap.size 9 1 (.slice (some ⟨w.heap.size, 0, none⟩) n n) n ((List.replicate n ([] : List UInt8)).map Str) :=
  ⟨by simp, .inr ⟨w.heap.size, n, _, rfl, Nat.le_refl _, heap_alloc_new w _, Nat.le_refl _, by unfold maxLen; omega, by simp, by rw [Nat.mul_one]; simp [Str]⟩⟩
theorem trioT {w : World} {b T : Nat} {c0 c1 c2 : Value} (h : w.heap[b]? = some (.cells #[c0, c1, c2] T)) : w.cell? ⟨b, 0, none⟩ = some c0 ∧ w.cell? ⟨b, 1, none⟩ = some c1 ∧ w.cell? ⟨b, 2, none⟩ = some c2 :=
  ⟨cell_of_row _ _ 0 _ _ _ h, cell_of_row _ _ 1 _ _ _ h, cell_of_row _ _ 2 _ _ _ h⟩
set_option maxRecDepth 100000 in
theorem over_T (B : Nat) (bs : List Nat) (w : World) (p : Nat) (s : RFS) (h : RF B bs w p s) : Calls Tryd.prog 28 #[.pointer (some ⟨p, 0, none⟩)] w fun e w' => ∃ t mb g, e = .returned (.pointer (some ⟨t, 0, none⟩)) ∧ w'.heap[t]? = some (.cells #[.pointer (some ⟨p, 0, none⟩), .slice (some ⟨g, 0, none⟩) s.R.length s.R.length, .map (some mb)] 68) ∧
    w'.ownsRow w.heap.size 9 1 (.slice (some ⟨g, 0, none⟩) s.R.length s.R.length) s.R.length ((List.replicate s.R.length ([] : List UInt8)).map Str) ∧ MapT w' mb (List.replicate s.R.length []) ∧ (w.heap.size ≤ g ∧ g < mb ∧ mb < t) ∧ Fr [] w w' := by
  have hmm := @run_makeMap Tryd.prog
  have HC := Lib.hid (Count_F B bs w p s h)
  obtain ⟨n, hn⟩ : ∃ n, n = s.R.length := ⟨_, rfl⟩
  have hn6 : n ≤ 65536 := by rw [hn]; exact h.ok.len
  rw [← hn] at HC ⊢
  have hmk := makeS n (by omega)
  clear h hn
  go_enter Tryd.func28, Tryd.ntmps28
  go_wp2_with fail
  refine HC.out.mono ?_
  rintro e w' ⟨rfl, rfl⟩
  go_wp2_with fail
  go_ret
  obtain ⟨w1, hw1⟩ : ∃ w1, w1 = w.alloc (.cells (Array.replicate n (Value.string ⟨#[]⟩)) 9) := ⟨_, rfl⟩
  rw [← hw1]
  have hf1 : Fr [] w w1 := by rw [hw1]; exact (Fr.refl _ _).alloc _
  have hs1 : w1.heap.size = w.heap.size + 1 := by rw [hw1]; simp
  have ho1 : w1.ownsRow w.heap.size 9 1 (.slice (some ⟨w.heap.size, 0, none⟩) n n) n ((List.replicate n ([] : List UInt8)).map Str) := by rw [hw1]; exact own_mkS w n (by omega)
  have hm2 := MapT.made w1 n
  rw [hs1] at hm2
  obtain ⟨w2, hw2⟩ : ∃ w2, w2 = w1.alloc (.map #[] 0) := ⟨_, rfl⟩
  rw [← hw2] at hm2 ⊢
  have hf2 : Fr [] w1 w2 := by rw [hw2]; exact (Fr.refl _ _).alloc _
  have hs2 : w2.heap.size = w1.heap.size + 1 := by rw [hw2]; simp
  have hs3 : w2.heap.size = w.heap.size + 1 + 1 := by omega
  refine ⟨w.heap.size + 1 + 1, w.heap.size + 1, w.heap.size, rfl, by rw [← hs3]; exact heap_alloc_new w2 _, own_fr ho1 (hf2.alloc _) (by simp), hm2.fr ((Fr.refl [] w2).alloc _) (by simp), by omega, (hf1.trans hf2).alloc _⟩
theorem nok_nil : NOk [] := ⟨fun s hs => absurd hs (by simp), fun i j hi => absurd hi (by simp), by simp⟩
set_option maxRecDepth 100000 in
theorem wrong_T (kd vr : Int) (w : World) : Calls Tryd.prog 26 #[.int .i64 kd, .int .i64 vr] w fun e w' => e = .returned (.bool (wrongB kd vr)) ∧ w = w' := by
  go_enter Tryd.func26, Tryd.ntmps26
  by_cases h1 : kd < 1
  · have e : wrongB kd vr = true := decide_eq_true (by omega)
    have HE := Lib.hid e
    clear e
    go_wp2_with fail
    go_ret
    exact ⟨by rw [HE.out]; rfl, rfl⟩
  by_cases h2 : 3 < kd
  · have e : wrongB kd vr = true := decide_eq_true (by omega)
    have HE := Lib.hid e
    clear e
    go_wp2_with fail
    go_ret
    exact ⟨by rw [HE.out]; rfl, rfl⟩
  by_cases h3 : vr = 1
  · have e : wrongB kd vr = false := decide_eq_false (by omega)
    have HE := Lib.hid e
    have i3 : (vr != 1) = false := by rw [h3]; rfl
    clear e h3
    go_wp2_with fail
    go_ret
    exact ⟨by rw [HE.out]; rfl, rfl⟩
  have i3 : (vr != 1) = true := by rw [bne_iff_ne]; exact h3
  by_cases h4 : vr = 2
  · have e : wrongB kd vr = false := decide_eq_false (by omega)
    have HE := Lib.hid e
    have i4 : (vr != 2) = false := by rw [h4]; rfl
    clear e h4 h3
    go_wp2_with fail
    go_ret
    exact ⟨by rw [HE.out]; rfl, rfl⟩
  · have e : wrongB kd vr = true := decide_eq_true (by omega)
    have HE := Lib.hid e
    have i4 : (vr != 2) = true := by rw [bne_iff_ne]; exact h4
    clear e h4 h3
    go_wp2_with fail
    go_ret
    exact ⟨by rw [HE.out]; rfl, rfl⟩
set_option maxRecDepth 100000 in
theorem New_T (kd vr : Nat) (w : World) (hk : 1 ≤ kd ∧ kd ≤ 3) (hv : vr = 1 ∨ vr = 2) : Calls Tryd.prog 10 #[.int .i64 kd, .int .i64 vr] w fun e w' => ∃ t bs, e = .returned (.tuple #[.pointer (some ⟨t, 0, none⟩), .int .i64 0]) ∧ TB w.heap.size bs w' t kd vr [] ∧ Fr [] w w' := by
  have HW := Lib.hid (wrong_T kd vr w)
  rw [show wrongB (kd : Int) (vr : Int) = false from decide_eq_false (by omega)] at HW
  have HNW := Lib.hid (New_ok kd vr 42 w (by omega) (by omega) (by omega) (by omega))
  clear hk hv
  go_enter Tryd.func10, Tryd.ntmps10
  go_wp2_with fail
  refine HW.out.mono ?_
  rintro e w' ⟨rfl, rfl⟩
  go_wp2_with fail
  refine HNW.out.mono ?_
  rintro e w1 ⟨rfl, hr, hf⟩
  have HR := Lib.hid hr
  have HF := Lib.hid hf
  have HO := Lib.hid (over_T _ _ w1 _ _ hr)
  clear hr hf
  go_wp2_with fail
  refine HO.out.mono ?_
  rintro e w2 ⟨t, mb, g, rfl, ho, hrow, hmap, ⟨o1, o2, o3⟩, hf2⟩
  have HOB := Lib.hid ho
  have HRW := Lib.hid hrow
  have HMP := Lib.hid hmap
  have HF2 := Lib.hid hf2
  have HSZ := Lib.hid (show w1.heap.size ≤ g ∧ g < mb ∧ mb < t from ⟨o1, o2, o3⟩)
  clear ho hrow hmap o1 o2 o3 hf2
  go_wp2_with fail
  go_ret2
  have hlt := (HR.out.lt w.heap.size (by simp)).2
  have hs := HSZ.out
  refine ⟨t, _, rfl, ⟨w.heap.size, mb, _, _, _, ⟨HOB.out, HR.out.keep HF2.out, own_base HRW.out HF.out.size, HMP.out, nok_nil, rfl, rfl, by omega, by omega, by simp; omega, by simp; omega, by omega, fun i hi => ?_⟩, rfl, rfl, rfl⟩, HF.out.trans HF2.out⟩
  have : g = i := by simpa [Value.ownBlock] using hi
  simp
  omega
/-! what a table tells -/
theorem Len_T (B : Nat) (bs : List Nat) (w : World) (t kd vr : Nat) (N : Nms) (h : TB B bs w t kd vr N) : Calls Tryd.prog 13 #[.pointer (some ⟨t, 0, none⟩)] w fun e w' => e = .returned (.int .i64 (lenN N)) ∧ w = w' := by
  obtain ⟨p, mb, v, fb, s, h, -, -, -⟩ := h
  obtain ⟨x0, x1, x2⟩ := trioT h.obj
  have hm := h.map.len
  clear h
  go_enter Tryd.func13, Tryd.ntmps13
  go_wp2_with fail
  go_ret
  exact ⟨rfl, rfl⟩
theorem Find_T (B : Nat) (bs : List Nat) (w : World) (t kd vr : Nat) (N : Nms) (l : List UInt8) (h : TB B bs w t kd vr N) (hl : l.length ≤ 140737488351300) : Calls Tryd.prog 15 #[.pointer (some ⟨t, 0, none⟩), .string ⟨l.toArray⟩] w fun e w' => e = .returned (.tuple #[.int .i64 ((findN N l).getD 0 : Nat), .bool (findN N l).isSome]) ∧ w = w' := by
  obtain ⟨p, mb, v, fb, s, h, -, -, -⟩ := h
  obtain ⟨x0, x1, x2⟩ := trioT h.obj
  have hm := h.map.look l (by unfold maxLen; omega)
  clear h
  generalize ByteArray.mk l.toArray = S at hm ⊢
  go_enter Tryd.func15, Tryd.ntmps15
  go_wp2_with fail
  go_ret2
  exact ⟨rfl, rfl⟩
theorem Bytes_T (B : Nat) (bs : List Nat) (w : World) (t kd vr : Nat) (N : Nms) (h : TB B bs w t kd vr N) (hn : Nib w) : Calls Tryd.prog 17 #[.pointer (some ⟨t, 0, none⟩)] w fun e w' => ∃ v, e = .returned v ∧ Fresh w.heap.size w w' v (fileB kd vr 42 (recsT N)) := by
  obtain ⟨p, mb, v, fb, s, h, hk, hv, -⟩ := h
  obtain ⟨x0, x1, x2⟩ := trioT h.obj
  have HB := Lib.hid (Bytes_F B fb w p s h.file hn)
  rw [hk, hv, h.sz, h.recs] at HB
  clear h hk hv
  go_enter Tryd.func17, Tryd.ntmps17
  go_wp2_with fail
  refine HB.out.mono ?_
  rintro e w2 ⟨v2, rfl, hf⟩
  have HF := Lib.hid hf
  clear hf
  go_wp2_with fail
  go_ret
  exact ⟨v2, rfl, HF.out⟩
theorem addT (b o n : Nat) : (⟨b, o, none⟩ : Addr).add n = ⟨b, o + n, none⟩ := by
  unfold Addr.add
  by_cases h : n = 0
  · rw [if_pos h, h]; rfl
  · rw [if_neg h]
theorem own_strC {w : World} {B n k : Nat} {v : Value} {N : Nms} (h : w.ownsRow B 9 1 v n (N.map Str)) (hk : k < N.length) : ∃ g c, v = .slice (some ⟨g, 0, none⟩) n c ∧ w.cell? ⟨g, k, none⟩ = some (Str (N.getD k [])) ∧ w.frozen? ⟨g, k, none⟩ = false := by
  have hn : n = N.length := by have := h.1; simpa using this.symm
  rcases h.2 with ⟨rfl, h0⟩ | ⟨g, cap, cur, rfl, hb, hh, _⟩
  · omega
  · refine ⟨g, cap, rfl, ?_, own_freeS h rfl k⟩
    have hc := h.cells (g := g) rfl k (Str (N.getD k [])) (by simp [List.getD, hk])
    rw [addT, Nat.zero_add] at hc
    exact hc
theorem Name_T (B : Nat) (bs : List Nat) (w : World) (t kd vr : Nat) (N : Nms) (id : Int) (h : TB B bs w t kd vr N) : Calls Tryd.prog 14 #[.pointer (some ⟨t, 0, none⟩), .int .i64 id] w fun e w' => e = .returned (.tuple #[Str (nameN N id), .bool (nameN N id != [])]) ∧ w = w' := by
  obtain ⟨p, mb, v, fb, s, h, -, -, -⟩ := h
  obtain ⟨x0, x1, x2⟩ := trioT h.obj
  have ho := h.nms
  obtain ⟨a, c, rfl⟩ := own_slR ho
  obtain ⟨n, hn⟩ : ∃ n, n = N.length := ⟨_, rfl⟩
  by_cases h0 : id < 0
  · have HM : Hid (nameN N id = []) := Lib.hid (by unfold nameN; rw [if_pos h0])
    clear h ho hn
    go_enter Tryd.func14, Tryd.ntmps14
    go_wp2_with fail
    go_ret2
    exact ⟨by rw [HM.out]; rfl, rfl⟩
  obtain ⟨k, rfl⟩ : ∃ k : Nat, id = k := ⟨id.toNat, by omega⟩
  have HM : Hid (nameN N (k : Int) = N.getD k []) := Lib.hid (by unfold nameN; rw [if_neg h0, Int.toNat_natCast])
  rw [← hn] at x1
  have hk0 : (0 : Int) ≤ (k : Int) := by omega
  by_cases hk : k < n
  · obtain ⟨g, c', e, hc, -⟩ := own_strC ho (k := k) (by rw [← hn]; exact hk)
    simp only [Value.slice.injEq] at e
    obtain ⟨rfl, -, -⟩ := e
    have hki : ¬ (n : Int) ≤ (k : Int) := by omega
    have hki2 : (k : Int) < (n : Int) := by omega
    obtain ⟨l, hl⟩ : ∃ l, l = N.getD k [] := ⟨_, rfl⟩
    rw [← hl] at hc HM
    have HS : Hid (Str l = .string ⟨l.toArray⟩) := Lib.hid rfl
    rw [HS.out] at hc
    have hnil : (ByteArray.mk l.toArray).toList = l := ByteArray.toList_mk l
    generalize ByteArray.mk l.toArray = S at hc HS hnil
    clear h ho hn hl hk
    by_cases hl0 : l = []
    · have h1 : S.toList.isEmpty = true := by rw [hnil, hl0]; rfl
      have h2 : S.toList = [] := by rw [hnil, hl0]
      have HL := Lib.hid hl0
      clear hnil hl0
      go_enter Tryd.func14, Tryd.ntmps14
      go_wp2_with fail
      go_ret2
      exact ⟨by rw [HM.out, HL.out]; rfl, rfl⟩
    · have h1 : S.toList.isEmpty = false := by rw [hnil]; simpa using hl0
      have h2 : ¬ S.toList = [] := by rw [hnil]; exact hl0
      have HL : Hid ((l != []) = true) := Lib.hid (bne_iff_ne.2 hl0)
      clear hnil hl0
      go_enter Tryd.func14, Tryd.ntmps14
      go_wp2_with fail
      go_ret2
      exact ⟨by rw [HM.out, HL.out, HS.out]; rfl, rfl⟩
  · have hki : (n : Int) ≤ (k : Int) := by omega
    have HZ : Hid (nameN N (k : Int) = []) := Lib.hid (by rw [HM.out, List.getD_eq_getElem?_getD, List.getElem?_eq_none (by omega)]; rfl)
    clear h ho hn hk
    go_enter Tryd.func14, Tryd.ntmps14
    go_wp2_with fail
    go_ret2
    exact ⟨by rw [HZ.out]; rfl, rfl⟩
end Go.Proofs.YtlckhfjkdahfpaaDoor
