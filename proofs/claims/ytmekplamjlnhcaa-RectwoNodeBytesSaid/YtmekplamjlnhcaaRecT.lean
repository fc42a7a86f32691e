/- Nodes of version 2 that are read: what the bytes say, and the walk of GetNode. -/
import Derived.Test.YtmekplamjlnhcaaRecS
namespace Go.Proofs.Ytmekplamjlnhcaa
open Go.RowKit

theorem infoN : (Try.prog.info? 54).map (·.size) = some 5 := by kernel_rfl
theorem infoI : (Try.prog.info? 3).map (fun i => (i.zero, i.size, i.bytes)) = some (some (.int .i64 0), 1, 8) := by kernel_rfl
/-! what eight bytes of labels say -/
def labsOf (cs : List UInt8) : List Int := (cs.takeWhile (· != 0)).map fun c => (c.toNat : Int) - 1
def gapOk (cs : List UInt8) : Bool := (cs.dropWhile (· != 0)).all (· == 0)
def gapAt (cs : List UInt8) : Bool := cs.any (· == 0)
theorem tw_all {cs : List UInt8} (h : gapAt cs = false) : cs.takeWhile (· != 0) = cs ∧ cs.dropWhile (· != 0) = [] := by
  induction cs with
  | nil => exact ⟨rfl, rfl⟩
  | cons x cs ih =>
    unfold gapAt at h
    rw [List.any_cons, Bool.or_eq_false_iff] at h
    have hx : (x != 0) = true := by unfold bne; rw [h.1]; rfl
    obtain ⟨h1, h2⟩ := ih h.2
    rw [List.takeWhile_cons, List.dropWhile_cons, hx]
    exact ⟨by simp [h1], by simp [h2]⟩
theorem tw_gap {cs : List UInt8} (h : gapAt cs = true) (r : List UInt8) : (cs ++ r).takeWhile (· != 0) = cs.takeWhile (· != 0) ∧ (cs ++ r).dropWhile (· != 0) = cs.dropWhile (· != 0) ++ r := by
  induction cs with
  | nil => simp [gapAt] at h
  | cons x cs ih =>
    unfold gapAt at h
    rw [List.any_cons, Bool.or_eq_true] at h
    by_cases hx : (x != 0) = true
    · have hg : gapAt cs = true := by
        rcases h with h | h
        · unfold bne at hx; rw [h] at hx; cases hx
        · exact h
      obtain ⟨h1, h2⟩ := ih hg
      rw [List.cons_append, List.takeWhile_cons, List.dropWhile_cons, List.takeWhile_cons, List.dropWhile_cons, hx]
      exact ⟨by simp [h1], by simp [h2]⟩
    · have hx : (x != 0) = false := by simpa using hx
      rw [List.cons_append, List.takeWhile_cons, List.dropWhile_cons, List.takeWhile_cons, List.dropWhile_cons, hx]
      simp
theorem gapAt_snoc (cs : List UInt8) (x : UInt8) : gapAt (cs ++ [x]) = (gapAt cs || x == 0) := by unfold gapAt; simp
theorem labs_in {cs : List UInt8} {x : UInt8} (hg : gapAt cs = false) (hx : (x == 0) = false) : labsOf (cs ++ [x]) = labsOf cs ++ [(x.toNat : Int) - 1] := by
  have h2 : gapAt (cs ++ [x]) = false := by rw [gapAt_snoc, hg, hx]; rfl
  unfold labsOf
  rw [(tw_all h2).1, (tw_all hg).1, List.map_append]
  rfl
theorem labs_out {cs : List UInt8} {x : UInt8} (hx : (x == 0) = true) : labsOf (cs ++ [x]) = labsOf cs := by
  cases hg : gapAt cs
  · unfold labsOf
    have e : x = 0 := by simpa using hx
    rw [(tw_all hg).1]
    subst e
    have : ∀ l : List UInt8, gapAt l = false → (l ++ [0]).takeWhile (· != 0) = l := by
      intro l
      induction l with
      | nil => intro _; rfl
      | cons y l ih =>
        intro h
        unfold gapAt at h
        rw [List.any_cons, Bool.or_eq_false_iff] at h
        have hy : (y != 0) = true := by unfold bne; rw [h.1]; rfl
        rw [List.cons_append, List.takeWhile_cons, hy]
        simp [ih h.2]
    rw [this cs hg]
  · unfold labsOf
    rw [(tw_gap hg [x]).1]
theorem gap_bad {cs r : List UInt8} {x : UInt8} (hg : gapAt cs = true) (hx : (x == 0) = false) : gapOk (cs ++ (x :: r)) = false := by
  unfold gapOk
  rw [(tw_gap hg (x :: r)).2, List.all_append, List.all_cons, hx]
  simp
theorem gap_in {cs : List UInt8} {x : UInt8} (hg : gapAt cs = false) : gapOk (cs ++ [x]) = true := by
  unfold gapOk
  have : ∀ l : List UInt8, gapAt l = false → ((l ++ [x]).dropWhile (· != 0)).all (· == 0) = true := by
    intro l
    induction l with
    | nil =>
      intro _
      by_cases hx : (x != 0) = true
      · simp [List.dropWhile_cons, hx]
      · have hx : (x != 0) = false := by simpa using hx
        have : x = 0 := by simpa using hx
        subst this
        simp
    | cons y l ih =>
      intro h
      unfold gapAt at h
      rw [List.any_cons, Bool.or_eq_false_iff] at h
      have hy : (y != 0) = true := by unfold bne; rw [h.1]; rfl
      rw [List.cons_append, List.dropWhile_cons, hy]
      simpa using ih h.2
  exact this cs hg
theorem gap_out {cs : List UInt8} {x : UInt8} (hk : gapOk cs = true) (hg : gapAt cs = true) (hx : (x == 0) = true) : gapOk (cs ++ [x]) = true := by
  unfold gapOk at hk ⊢
  rw [(tw_gap hg [x]).2, List.all_append, hk]
  simpa using hx
theorem labsOf_length (cs : List UInt8) : (labsOf cs).length ≤ cs.length := by
  unfold labsOf; rw [List.length_map]; exact (List.takeWhile_prefix _).length_le
/-! a node that 65 bytes are -/
def nLabs (l : List UInt8) : List UInt8 := (l.drop 9).take 8
def nDec (l : List UInt8) : NodeV := ⟨(nm l 0 1 : Int) == 1, nm l 1 4 - 1, nm l 5 4 - 1, labsOf (nLabs l), (l.drop 17).take 48⟩
def nOk (l : List UInt8) : Bool := decide (nm l 0 1 ≤ 1) && (gapOk (nLabs l) && nFine (nDec l))
def nZero : Value := .agg #[.bool false, .int .i64 0, .int .i64 0, .slice none 0 0, .slice none 0 0]
def NodeV.val (n : NodeV) (la v : Value) : Value := .agg #[.bool n.dense, .int .i64 n.first, .int .i64 n.over, la, v]
/-- what a reading of 65 bytes gives -/
def GotNode (B : Nat) (l : List UInt8) (e : Value) (w' : World) : Prop :=
  if nOk l then ∃ la v, e = .tuple #[(nDec l).val la v, .int .i64 0] ∧ w'.ownsRow B 3 1 la (nDec l).labs.length ((nDec l).labs.map (Value.int .i64)) ∧ w'.ownsRow B 5 1 v (nDec l).sl.length ((nDec l).sl.map B8) ∧ (∀ g, la.ownBlock = some g → v.ownBlock ≠ some g) else e = .tuple #[nZero, .int .i64 41]
theorem GotNode.no {B : Nat} {l : List UInt8} {e : Value} {w' : World} (hf : nOk l = false) (h : e = .tuple #[nZero, .int .i64 41]) : GotNode B l e w' := by
  unfold GotNode; rw [if_neg (by rw [hf]; simp)]; exact h
theorem nLabs_length (l : List UInt8) (h : l.length = 65) : (nLabs l).length = 8 := by
  unfold nLabs; simp only [List.length_take, List.length_drop]; omega
theorem nSl_length (l : List UInt8) (h : l.length = 65) : (nDec l).sl.length = 48 := by
  unfold nDec; simp only [List.length_take, List.length_drop]; omega
theorem GetNode_size (a : Option Addr) (c : Nat) (l : List UInt8) (w : World) (h : l.length ≠ 65) :
    Calls Try.prog 28 #[.slice a l.length c] w fun e w' => e = .returned (.tuple #[nZero, .int .i64 4]) ∧ Fr [] w w' := by
  have hb : ((l.length : Int) != 65) = true := by rw [bne_iff_ne]; omega
  have H := Lib.hid h; clear h
  go_enter Try.func28, Try.ntmps28
  go_wp2
  exact bodyPost_ret (v := .tuple #[nZero, .int .i64 4]) (by simp [results, Try.results28, go_sem, nZero]) rfl ⟨rfl, (Fr.refl _ _).alloc _⟩
/-- numbers of the call's own, as the address reads them -/
theorem ints_of_own {w : World} {B e : Nat} {v : Value} {l : List Int} (h : w.ownsRow B e 1 v l.length (l.map (Value.int .i64))) : ∃ a cap, v = .slice a l.length cap ∧ Ints w a l ∧ l.length ≤ cap ∧ (a = none → cap = 0) ∧ (∀ ad, a = some ad → B ≤ ad.block ∧ ad.off = 0 ∧ ad.spot = none) := by
  have hx := h.2
  rcases hx with ⟨rfl, hn⟩ | ⟨g, cap, cur, rfl, hg, hh, hn, hm, hs, ht⟩
  · have : l = [] := List.eq_nil_of_length_eq_zero hn
    subst this
    exact ⟨none, 0, rfl, Or.inl rfl, Nat.le_refl _, fun _ => rfl, fun _ h => by cases h⟩
  · refine ⟨_, cap, rfl, Or.inr ⟨g, 0, rfl, fun j hj => ?_⟩, hn, (fun h => by cases h), fun ad had => by cases had; exact ⟨hg, rfl, rfl⟩⟩
    have hu : (l.map (Value.int .i64))[j]? = some (.int .i64 (l.getD j 0)) := by simp [List.getD, hj]
    have := h.cells (g := g) rfl j _ hu
    rwa [Addr.add_lit] at this
theorem news_one {w : World} {v : Value} {T g : Nat} (hg : g = w.heap.size) : ∀ a, some (⟨g, 0, none⟩ : Addr) = some a → ∀ j u, [v][j]? = some u → (w.alloc (.cells #[v] T)).cell? (a.add j) = some u := by
  rintro a ha j u hu
  cases ha
  subst hg
  have hj : j = 0 := by
    have := (List.getElem?_eq_some_iff.1 hu).1
    simpa using this
  subst hj
  rw [Addr.add_lit, cell_of_row _ _ _ _ T _ (heap_alloc_new w _)]
  simpa using hu
theorem App.fr {w w' : World} {base e size n m : Nat} {v v' : Value} {xs news : List Value} (h : App w w' base e size v v' n m xs news) : Fr v.ownBlock.toList w w' :=
  Fr.of_grown h.grown _ fun k hk _ => by simp [hk]
theorem nOk_gap {l : List UInt8} (h : gapOk (nLabs l) = false) : nOk l = false := by unfold nOk; rw [h]; simp
theorem nOk_dense {l : List UInt8} (h : ¬ nm l 0 1 ≤ 1) : nOk l = false := by unfold nOk; rw [decide_eq_false h]; rfl
theorem nOk_fine {l : List UInt8} (h : nFine (nDec l) = false) : nOk l = false := by unfold nOk; rw [h]; simp
set_option maxRecDepth 100000 in
set_option maxHeartbeats 6400000 in
theorem GetNode_any (a : Option Addr) (c : Nat) (l : List UInt8) (w : World) (h : l.length = 65) (hb : Bytes w a l) :
    Calls Try.prog 28 #[.slice a l.length c] w fun e w' => ∃ x, e = .returned x ∧ GotNode w.heap.size l x w' ∧ Fr [] w w' := by
  have hbb : ((l.length : Int) != 65) = false := by rw [bne_eq_false_iff_eq]; omega
  have HL := Lib.hid h
  have hle : l.length ≤ 100 := by omega
  have HB := Lib.hid hb
  clear hb h
  go_enter Try.func28, Try.ntmps28
  go_wp2_with fail
  refine (NewR a c l _ (by omega) (by have := HL.out; omega) (HB.out.keep ((Fr.refl _ _).alloc _))).mono ?_
  rintro e w1 ⟨p, g, rfl, hr, hg, hgp, hf⟩
  have hz := hf.obj (heap_alloc_new w (.cells #[.bool false, .int .i64 0, .int .i64 0, .slice none 0 0, .slice none 0 0] 54)) (by simp)
  have HZ1 := Lib.hid hz
  have HF1 := Lib.hid (((Fr.refl [] w).alloc _).trans hf)
  have hgw : w.heap.size < g := by simp at hg; omega
  have HR1 := Lib.hid hr
  have hp1 := hr.lt
  clear hr hf hz hg
  go_wp2_with fail
  refine (NumR w1 p g l 0 1 HR1.out (by omega) (by unfold Wd; omega) (by omega) (by have := HL.out; omega)).mono ?_
  rintro e w2 ⟨rfl, hr, hf⟩
  have HR2 := Lib.hid hr
  have HF2 := Lib.hid hf
  have hs2 := hf.size
  clear hr hf
  go_wp2_with fail
  have hd0 : (0 : Int) ≤ (nm l 0 1 : Int) := by omega
  obtain ⟨D, hD⟩ : ∃ D : Bool, D = ((nm l 0 1 : Int) == 1) := ⟨_, rfl⟩
  rw [← hD]
  have HD := Lib.hid hD
  clear hD
  have hp2 := HR2.out.lt
  refine (getR _ p g w2.heap.size (w2.heap.size + 1) 2 54 l _ [.bool D, .int .i64 0, .int .i64 0, .slice none 0 0, .slice none 0 0] [1, 2] (HR2.out.fr (((Fr.refl [] w2).alloc _).alloc _) (by simp) (by simp)) (by omega) (by have := HL.out; simp; omega)
    (((Fr.refl [] _).alloc _).obj (heap_alloc_new w2 _) (by simp)) (by simp) (ptr_cells _ _ _ [1, 2] _ (by simp)) (by omega) (by omega) (by omega) (by omega)).mono ?_
  rintro e w3 ⟨rfl, hr3, hob, hf3⟩
  have hob3 : w3.heap[w2.heap.size]? = some (.cells #[.bool D, .int .i64 (nm l 1 4 - 1), .int .i64 (nm l 5 4 - 1), .slice none 0 0, .slice none 0 0] 54) := hob
  have HO3 := Lib.hid hob3
  have HR3 := Lib.hid hr3
  have HF3 := Lib.hid ((HF2.out.mono (T := [p, w2.heap.size]) (by simp)).trans (((((Fr.refl [p, w2.heap.size] w2).alloc _).alloc _)).trans hf3))
  clear hr3 hob hf3 hob3
  go_wp2_with fail
  refine (RawR w3 p g l _ 8 HR3.out (by omega) (by have := HL.out; simp; omega)).mono ?_
  rintro e w4 ⟨v, rfl, hown, hr4, hf4⟩
  obtain ⟨S, hS⟩ : ∃ S, S = nLabs l := ⟨_, rfl⟩
  rw [show (l.drop (0 + 1 + 4 * [1, 2].length)).take 8 = S from hS.symm] at hown
  have HSS := Lib.hid hS
  have hS8 : S.length = 8 := by rw [hS]; exact nLabs_length l HL.out
  have HS8 := Lib.hid hS8
  obtain ⟨sa, sc, rfl, hby, _, _, _, hlo⟩ := Bytes.of_own hown
  rw [hS8]
  have HBY := Lib.hid hby
  have HLO := Lib.hid hlo
  have HR4 := Lib.hid hr4
  have HF4 := Lib.hid (HF3.out.trans (hf4.mono (T := [p, w2.heap.size]) (by simp)))
  have HO4 := Lib.hid (hf4.obj HO3.out (by simp; omega))
  have hlt3 := (Array.getElem?_eq_some_iff.1 HO3.out).1
  have hlt4 := (Array.getElem?_eq_some_iff.1 HO4.out).1
  have hsz1 := HF1.out.size
  have hwb : w.heap.size < w2.heap.size := by omega
  clear hown hr4 hf4 hS hS8 hby hlo
  have HZ4 := Lib.hid (HF4.out.obj HZ1.out (by simp; omega))
  have HFW := Lib.hid (show Fr [] w w4 from HF1.out.next HF4.out (by intro i hi hlt; simp at hi; omega))
  go_wp2_with fail
  go_loopw [7, 9, 29] (fun gp _ i wr => ∃ (k : Nat) (lv : Value), k ≤ 8 ∧ i = .int .i64 k ∧ gp = .bool (gapAt (S.take k)) ∧ gapOk (S.take k) = true ∧ wr.heap[w2.heap.size]? = some (.cells #[.bool D, .int .i64 (nm l 1 4 - 1), .int .i64 (nm l 5 4 - 1), lv, .slice none 0 0] 54) ∧ wr.ownsRow w4.heap.size 3 1 lv (labsOf (S.take k)).length ((labsOf (S.take k)).map (Value.int .i64)) ∧ Fr [w2.heap.size] w4 wr) (fun _ _ i _ => 8 - (intOf i).toNat)
  case atStart => exact ⟨0, .slice none 0 0, by omega, rfl, rfl, rfl, HO4.out, World.ownsRow_nil _ _ _ _, Fr.refl _ _⟩
  case round =>
    obtain ⟨k, lv, hk, rfl, rfl, hgo, hob, hown, hfr⟩ := hrel
    have HGO := Lib.hid hgo
    have HOB := Lib.hid hob
    have HOW := Lib.hid hown
    have HFR := Lib.hid hfr
    clear hgo hob hown hfr
    by_cases hlt : k < 8
    · have hcell : ∃ b off, sa = some ⟨b, off, none⟩ ∧ wr.cell? ⟨b, off + k, none⟩ = some (.int .u8 (I8 (S.getD k 0))) := by
        obtain ⟨b, off, e, hc⟩ := HBY.out.at (by rw [HS8.out]; omega)
        refine ⟨b, off, e, HFR.out.cell (hc k (by rw [HS8.out]; omega)) ?_⟩
        have h3 : w3.heap.size ≤ b := (HLO.out _ e).1
        simp
        omega
      obtain ⟨b, off, rfl, hcell⟩ := hcell
      have HTK := Lib.hid (show S.take (k + 1) = S.take k ++ [S.getD k 0] by rw [take_snoc S k (by rw [HS8.out]; exact hlt)]; simp [List.getD, HS8.out, hlt])
      have HDR := Lib.hid (show S = S.take k ++ (S.getD k 0 :: S.drop (k + 1)) by
        have h1 : k < S.length := by rw [HS8.out]; exact hlt
        conv => lhs; rw [← List.take_append_drop k S]
        rw [List.drop_eq_getElem_cons h1]
        simp [List.getD, h1])
      have hk8 : (k : Int) < 8 := by omega
      generalize S.getD k 0 = x at hcell HTK HDR
      cases hx0 : (x == 0)
      · have e1 : (I8 x == 0) = false := by rw [show (0 : Int) = I8 0 by decide +kernel, I8_eq]; exact hx0
        have e2 : (I8 x != 0) = true := by unfold bne; rw [e1]; rfl
        have HX0 := Lib.hid hx0
        clear hx0
        cases hgp : gapAt (S.take k)
        · have HGP := Lib.hid hgp
          have x3 := cell_of_row wr _ 3 _ _ _ HOB.out
          have hx255 := I8_hi x
          have hx00 := I8_lo x
          have HLL := Lib.hid (labsOf_length (S.take k))
          have HT8 := Lib.hid (show (S.take k).length ≤ 8 by rw [List.length_take]; omega)
          have HXN := Lib.hid (show I8 x - 1 = (x.toNat : Int) - 1 by unfold I8; rfl)
          clear hgp
          go_wp2_with (at_builtin; refine wpList_appS _ rfl _ _ 52 rfl w4.heap.size 3 (.int .i64 0) 1 8 Try.underlying52 infoI rfl (by decide) lv _ _ rfl (World.ownsRow.alloc HOW.out _) (some ⟨wr.heap.size, 0, none⟩) 1 1 [.int .i64 (I8 x - 1)] rfl rfl (news_one rfl) (fun h => by cases h) (by simp [Value.oneCell']) (by have := HLL.out; have := HT8.out; unfold maxLen; omega) (by have := HLL.out; have := HT8.out; omega) (by have := HFR.out.size; simp; omega) ?_; intro v' w5 happ; have hown2 : w5.ownsRow w4.heap.size 3 1 v' (labsOf (S.take (k + 1))).length ((labsOf (S.take (k + 1))).map (Value.int .i64)) := (by rw [HTK.out, labs_in HGP.out HX0.out, ← HXN.out]; simpa using happ.own); have hbn : ∀ i, lv.ownBlock = some i → w2.heap.size ≠ i := (by intro i hi; have := (own_lt HOW.out hi).1; omega); have hob5 := happ.fr.obj (((Fr.refl [] wr).alloc _).obj HOB.out (by simp)) (by intro hm; exact hbn _ (by simpa using hm) rfl); have HA := Lib.hid happ; obtain ⟨a5, c5, rfl, _⟩ := ints_of_own hown2; have HOW5 := Lib.hid hown2; have HOB5 := Lib.hid hob5; have y3 := cell_of_row w5 _ 3 _ _ _ hob5; have yf3 := frozen_of_row w5 _ 3 _ _ hob5; clear happ hown2 hob5 hbn)
          go_roundw
          case rel =>
            refine ⟨k + 1, _, by omega, by go_num, ?_, ?_, heap_setCell_same w5 _ 3 _ _ _ HOB5.out, ?_, ?_⟩
            · rw [HTK.out, gapAt_snoc, HGP.out, HX0.out]; rfl
            · rw [HTK.out]; exact gap_in HGP.out
            · exact own_fr HOW5.out ((Fr.refl [w2.heap.size] w5).setCell (by simp) _) (by intro i hi; have := (own_lt HOW5.out hi).1; simp; omega)
            · exact ((HFR.out.alloc _).next HA.out.fr (by intro i hi hlt9; have := (own_lt HOW.out (g := i) (by simpa using hi)).1; omega)).setCell (by simp) _
          case measure => simp [intOf] <;> omega
        · have HGP := Lib.hid hgp
          have hz := HFR.out.obj HZ4.out (by simp; omega)
          have HZR := Lib.hid hz
          have HBAD := Lib.hid (nOk_gap (l := l) (by rw [← HSS.out, HDR.out]; exact gap_bad hgp HX0.out))
          have z0 := cell_of_row wr _ 0 _ _ _ hz
          have z1 := cell_of_row wr _ 1 _ _ _ hz
          have z2 := cell_of_row wr _ 2 _ _ _ hz
          have z3 := cell_of_row wr _ 3 _ _ _ hz
          have z4 := cell_of_row wr _ 4 _ _ _ hz
          have zf0 := frozen_of_row wr _ 0 _ _ hz
          have zf1 := frozen_of_row wr _ 1 _ _ hz
          have zf2 := frozen_of_row wr _ 2 _ _ hz
          have zf3 := frozen_of_row wr _ 3 _ _ hz
          have zf4 := frozen_of_row wr _ 4 _ _ hz
          clear hgp hz
          go_wp2
          refine bodyPost_ret (v := .tuple #[nZero, .int .i64 41]) ?_ rfl ⟨_, rfl, GotNode.no HBAD.out rfl, Fr.setCells (by simp) [.bool false, .int .i64 0, .int .i64 0, .slice none 0 0, .slice none 0 0] 0 _ (HFW.out.next HFR.out (by intro i hi hlt9; simp at hi; omega))⟩
          exact results_row Try.results28 _ _ w.heap.size 54 _ _ _ rfl rfl (obj_setCells HZR.out [.bool false, .int .i64 0, .int .i64 0, .slice none 0 0, .slice none 0 0] rfl) Try.underlying54 rfl infoN
      · have e1 : (I8 x == 0) = true := by rw [show (0 : Int) = I8 0 by decide +kernel, I8_eq]; exact hx0
        have e2 : (I8 x != 0) = false := by unfold bne; rw [e1]; rfl
        have HX0 := Lib.hid hx0
        clear hx0
        cases hgp : gapAt (S.take k)
        · have HGP := Lib.hid hgp
          clear hgp
          go_wp2_with fail
          go_roundw
          case rel => exact ⟨k + 1, lv, by omega, by go_num, by rw [HTK.out, gapAt_snoc, HGP.out, HX0.out]; rfl, by rw [HTK.out]; exact gap_in HGP.out, HOB.out, by rw [HTK.out, labs_out HX0.out]; exact HOW.out, HFR.out⟩
          case measure => simp [intOf] <;> omega
        · have HGP := Lib.hid hgp
          clear hgp
          go_wp2_with fail
          go_roundw
          case rel => exact ⟨k + 1, lv, by omega, by go_num, by rw [HTK.out, gapAt_snoc, HGP.out, HX0.out]; rfl, by rw [HTK.out]; exact gap_out HGO.out HGP.out HX0.out, HOB.out, by rw [HTK.out, labs_out HX0.out]; exact HOW.out, HFR.out⟩
          case measure => simp [intOf] <;> omega
    · have HTE := Lib.hid (show S.take k = S from List.take_of_length_le (by rw [HS8.out]; omega))
      have how := HOW.out
      rw [HTE.out] at how
      obtain ⟨la, lc, rfl, hints, _, _, hlo9⟩ := ints_of_own how
      have HOW := Lib.hid how
      have HI := Lib.hid hints
      clear how hints hlo9
      go_wp2_with fail
      refine (RawR wr p g l _ 48 (HR4.out.fr HFR.out (by simp; omega) (by simp; omega)) (by omega) (by have := HL.out; simp; omega)).mono ?_
      rintro e w6 ⟨v, rfl, hown, hr6, hf6⟩
      obtain ⟨Q, hQ⟩ : ∃ Q, Q = (nDec l).sl := ⟨_, rfl⟩
      rw [show (l.drop (0 + 1 + 4 * [1, 2].length + 8)).take 48 = Q from hQ.symm] at hown
      have HQ := Lib.hid hQ
      clear hQ hr6
      obtain ⟨qa, qc, rfl, _⟩ := Bytes.of_own hown
      have HOQ := Lib.hid hown
      have HF6 := Lib.hid hf6
      have ho6 := hf6.obj HOB.out (by simp; omega)
      have HO6 := Lib.hid ho6
      have hs6 := hf6.size
      have hsr := HFR.out.size
      have y0 := cell_of_row w6 _ 0 _ _ _ ho6
      have y1 := cell_of_row w6 _ 1 _ _ _ ho6
      have y2 := cell_of_row w6 _ 2 _ _ _ ho6
      have y3 := cell_of_row w6 _ 3 _ _ _ ho6
      have y4 := cell_of_row w6 _ 4 _ _ _ ho6
      have yf4 := frozen_of_row w6 _ 4 _ _ ho6
      clear ho6 hf6 hown
      have hd0 : (0 : Int) ≤ (nm l 0 1 : Int) := by omega
      have hz6 := HF6.out.obj (HFR.out.obj HZ4.out (by simp; omega)) (by simp; omega)
      have HZ6 := Lib.hid hz6
      have HFX := Lib.hid (show Fr [] w w6 from (HFW.out.next HFR.out (by intro i hi hlt9; simp at hi; omega)).next HF6.out (by intro i hi hlt9; simp at hi; omega))
      have HFQ := Lib.hid (((Fr.refl [w2.heap.size] w6).setCell (p := ⟨w2.heap.size, 4, none⟩) (by simp) (.slice qa Q.length qc)))
      have hne1 : ¬ (w2.heap.size = w.heap.size) := by omega
      have hne2 : ¬ (w.heap.size = w2.heap.size) := by omega
      by_cases hd : nm l 0 1 ≤ 1
      · have hdi : ¬ (1 : Int) < (nm l 0 1 : Int) := by omega
        have HD1 := Lib.hid hd
        clear hz6
        go_wp2_with fail
        obtain ⟨w7, hw7⟩ : ∃ w7, w7 = w6.setCell ⟨w2.heap.size, 4, none⟩ (.slice qa Q.length qc) := ⟨_, rfl⟩
        rw [← hw7]
        have ho7 : w7.heap[w2.heap.size]? = some (.cells #[.bool D, .int .i64 (nm l 1 4 - 1), .int .i64 (nm l 5 4 - 1), .slice la (labsOf S).length lc, .slice qa Q.length qc] 54) := by rw [hw7]; exact heap_setCell_same w6 _ 4 _ _ _ HO6.out
        have hf7 : Fr [w2.heap.size] w6 w7 := by rw [hw7]; exact HFQ.out
        clear hw7 y0 y1 y2 y3 y4 yf4
        have HO7 := Lib.hid ho7
        have HFW7 := Lib.hid (show Fr [] w w7 from HFX.out.next hf7 (by intro i hi hlt9; simp at hi; omega))
        have HZ7 := Lib.hid (hf7.obj HZ6.out (by simp; omega))
        have HOW7 := Lib.hid (own_fr (own_fr HOW.out HF6.out (by intro i hi; have := (own_lt HOW.out hi).1; simp; omega)) hf7 (by intro i hi; have := (own_lt HOW.out hi).1; simp; omega))
        have HOQ7 := Lib.hid (own_fr HOQ.out hf7 (by intro i hi; have := (own_lt HOQ.out hi).1; simp; omega))
        have hint7 : Ints w7 la (labsOf S) := by
          obtain ⟨a', c', e, h1, _⟩ := ints_of_own HOW7.out
          cases e
          exact h1
        have hlen9 : (labsOf S).length ≤ 8 := Nat.le_trans (labsOf_length S) (by rw [HS8.out]; omega)
        clear ho7 hf7
        refine (nodeFine_any D (nm l 1 4 - 1) (nm l 5 4 - 1) la lc (labsOf S) qa qc Q w7 (by omega) hint7).mono ?_
        rintro e w8 ⟨rfl, hf8⟩
        have hz8 := hf8.obj HZ7.out (by simp)
        have HZ8 := Lib.hid hz8
        have ho8 := hf8.obj HO7.out (by simp)
        have HF8 := Lib.hid (HFW7.out.trans hf8)
        have HOW8 := Lib.hid (own_fr HOW7.out hf8 (by simp))
        have HOQ8 := Lib.hid (own_fr HOQ7.out hf8 (by simp))
        have HEQ := Lib.hid (show nDec l = ⟨D, nm l 1 4 - 1, nm l 5 4 - 1, labsOf S, Q⟩ by rw [HSS.out, HQ.out, HD.out]; rfl)
        have z0 := cell_of_row w8 _ 0 _ _ _ hz8
        have z1 := cell_of_row w8 _ 1 _ _ _ hz8
        have z2 := cell_of_row w8 _ 2 _ _ _ hz8
        have z3 := cell_of_row w8 _ 3 _ _ _ hz8
        have z4 := cell_of_row w8 _ 4 _ _ _ hz8
        have zf0 := frozen_of_row w8 _ 0 _ _ hz8
        have zf1 := frozen_of_row w8 _ 1 _ _ hz8
        have zf2 := frozen_of_row w8 _ 2 _ _ hz8
        have zf3 := frozen_of_row w8 _ 3 _ _ hz8
        have zf4 := frozen_of_row w8 _ 4 _ _ hz8
        have x0 := cell_of_row w8 _ 0 _ _ _ ho8
        have x1 := cell_of_row w8 _ 1 _ _ _ ho8
        have x2 := cell_of_row w8 _ 2 _ _ _ ho8
        have x3 := cell_of_row w8 _ 3 _ _ _ ho8
        have x4 := cell_of_row w8 _ 4 _ _ _ ho8
        clear hz8 ho8 hf8 hint7
        cases hfin : nFine ⟨D, nm l 1 4 - 1, nm l 5 4 - 1, labsOf S, Q⟩
        · have HBAD := Lib.hid (nOk_fine (l := l) (by rw [HEQ.out]; exact hfin))
          clear hfin
          go_wp2
          refine bodyPost_ret (v := .tuple #[nZero, .int .i64 41]) ?_ rfl ⟨_, rfl, GotNode.no HBAD.out rfl, Fr.setCells (by simp) [.bool false, .int .i64 0, .int .i64 0, .slice none 0 0, .slice none 0 0] 0 _ HF8.out⟩
          exact results_row Try.results28 _ _ w.heap.size 54 _ _ _ rfl rfl (obj_setCells HZ8.out [.bool false, .int .i64 0, .int .i64 0, .slice none 0 0, .slice none 0 0] rfl) Try.underlying54 rfl infoN
        · have HOK := Lib.hid (show nOk l = true by
            unfold nOk
            rw [decide_eq_true HD1.out, HEQ.out, hfin, ← HSS.out, ← HTE.out, HGO.out]
            rfl)
          clear hfin
          go_wp2
          have hfs : Fr [w.heap.size] w8 (w8.setCells w.heap.size 0 [.bool D, .int .i64 (nm l 1 4 - 1), .int .i64 (nm l 5 4 - 1), .slice la (labsOf S).length lc, .slice qa Q.length qc]) := Fr.setCells (S := [w.heap.size]) (by simp) [.bool D, .int .i64 (nm l 1 4 - 1), .int .i64 (nm l 5 4 - 1), .slice la (labsOf S).length lc, .slice qa Q.length qc] 0 w8 (Fr.refl _ _)
          refine bodyPost_ret (v := .tuple #[(nDec l).val (.slice la (labsOf S).length lc) (.slice qa Q.length qc), .int .i64 0]) ?_ rfl ⟨_, rfl, ?_, Fr.setCells (by simp) [.bool D, .int .i64 (nm l 1 4 - 1), .int .i64 (nm l 5 4 - 1), .slice la (labsOf S).length lc, .slice qa Q.length qc] 0 _ HF8.out⟩
          · rw [HEQ.out]
            exact results_row Try.results28 _ _ w.heap.size 54 _ _ _ rfl rfl (obj_setCells HZ8.out [.bool D, .int .i64 (nm l 1 4 - 1), .int .i64 (nm l 5 4 - 1), .slice la (labsOf S).length lc, .slice qa Q.length qc] rfl) Try.underlying54 rfl infoN
          · unfold GotNode
            rw [if_pos HOK.out]
            refine ⟨_, _, rfl, ?_, ?_, ?_⟩
            · rw [HEQ.out]
              exact own_base (own_fr HOW8.out hfs (by intro i hi; have := (own_lt HOW.out hi).1; simp; omega)) (by omega)
            · rw [HEQ.out]
              exact own_base (own_fr HOQ8.out hfs (by intro i hi; have := (own_lt HOQ.out hi).1; simp; omega)) (by omega)
            · intro i hi e
              have h1 := (own_lt HOW.out hi).2
              have h2 := (own_lt HOQ.out e).1
              omega
      · have hdi : (1 : Int) < (nm l 0 1 : Int) := by omega
        have HBAD := Lib.hid (nOk_dense hd)
        have z0 := cell_of_row w6 _ 0 _ _ _ hz6
        have z1 := cell_of_row w6 _ 1 _ _ _ hz6
        have z2 := cell_of_row w6 _ 2 _ _ _ hz6
        have z3 := cell_of_row w6 _ 3 _ _ _ hz6
        have z4 := cell_of_row w6 _ 4 _ _ _ hz6
        have zf0 := frozen_of_row w6 _ 0 _ _ hz6
        have zf1 := frozen_of_row w6 _ 1 _ _ hz6
        have zf2 := frozen_of_row w6 _ 2 _ _ hz6
        have zf3 := frozen_of_row w6 _ 3 _ _ hz6
        have zf4 := frozen_of_row w6 _ 4 _ _ hz6
        have HO66 := Lib.hid (HFQ.out.obj HZ6.out (by simp; omega))
        clear hz6
        go_wp2
        refine bodyPost_ret (v := .tuple #[nZero, .int .i64 41]) ?_ rfl ⟨_, rfl, GotNode.no HBAD.out rfl, Fr.setCells (by simp) [.bool false, .int .i64 0, .int .i64 0, .slice none 0 0, .slice none 0 0] 0 _ (HFX.out.next HFQ.out (by intro i hi hlt9; simp at hi; omega))⟩
        exact results_row Try.results28 _ _ w.heap.size 54 _ _ _ rfl rfl (obj_setCells HO66.out [.bool false, .int .i64 0, .int .i64 0, .slice none 0 0, .slice none 0 0] rfl) Try.underlying54 rfl infoN
end Go.Proofs.Ytmekplamjlnhcaa
