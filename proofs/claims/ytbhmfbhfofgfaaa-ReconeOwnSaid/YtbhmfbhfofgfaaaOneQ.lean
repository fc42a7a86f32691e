/- A codec that reads carries labels. -/
import Derived.Test.YtbhmfbhfofgfaaaOneG
import Derived.Deep.CutRange
import Derived.Deep.DeepCutAuto
import Derived.Deep.RegionLaw
namespace Go.Proofs.Ytbhmfbhfofgfaaa
open Go.RowKit
attribute [local go_sem ↓] Go.wp_at_zero Go.wp_at_succ
/-- append onto a list of the call's own, as one step of a region that draws -/
theorem step_appS {P : Program} {ops : Array Oper} {o : Oper} {a : Act} {w : World} {K : Act → World → Prop} {Q : Exit → Act → World → Prop} {E : Prop}
    (hg : o.guard = none) (s x : Operand) (t : TypeId) (hop : o.op = Op.call { callee := Callee.builtin Builtin.append, args := #[s, x], argTypes := #[t, t] })
    (base : Nat) (e : TypeId) (z : Value) (size bytes : Nat) (ht : P.underlying t = some (.slice e)) (hinfo : (P.info? e).map (fun i => (i.zero, i.size, i.bytes)) = some (some z, size, bytes))
    (hzs : z.cells.size = size) (hsz : 0 < size)
    (v : Value) (n : Nat) (xs : List Value) (hs : a.eval s = v) (hown : w.ownsRow base e size v n xs)
    (ao : Option Addr) (m c : Nat) (news : List Value) (hx : a.eval x = .slice ao m c) (hl : news.length = m * size) (hnews : ∀ a, ao = some a → ∀ j u, news[j]? = some u → w.cell? (a.add j) = some u) (hnone : ao = none → m = 0 ∧ c = 0) (h1 : ∀ u ∈ news, u.oneCell' = true)
    (h63 : n + m ≤ maxLen) (hbytes : (n + m) * bytes ≤ 140737488355328) (hbase : base ≤ w.heap.size)
    (hK : ∀ v' w', App w w' base e size v v' n m xs news → K (a.put o.dst v') w') :
    if Region.wanted o (yielded ops a.tmps) = true then Oper.wp P o a w K Q else E := by
  have hw : Region.wanted o (yielded ops a.tmps) = true := by simp [Region.wanted, hg]
  rw [if_pos hw]
  obtain ⟨i, hi, hz, hsz2, hby⟩ := info_parts hinfo
  obtain ⟨v', w', hr, happ⟩ := run_appS (P := P) w base t o.type e i z size bytes ht hi hz hsz2 hby hzs hsz v n xs hown ao m c news hl hnews hnone h1 h63 hbytes hbase
  unfold Oper.wp
  simp [execOp, hop, resolve, invoke, builtin, hs, hx, hr, Result.andThen]
  exact hK v' w' happ
theorem nm1_at {l : List UInt8} {q : Nat} (h : q < l.length) : nm l q 1 = (l.getD q 0).toNat := by
  rw [nm_def, List.drop_eq_getElem_cons h, List.take_succ_cons, List.take_zero]
  simp [be, List.getD, h]
/-- the labels that are appended -/
def posL (cs : List UInt8) : List Int := (cs.map labN).filter (fun n => decide (0 ≤ n))
theorem posL_snoc (cs : List UInt8) (c : UInt8) : posL (cs ++ [c]) = posL cs ++ (if 0 ≤ labN c then [labN c] else []) := by
  unfold posL
  rw [List.map_append, List.filter_append]
  congr 1
  by_cases h : 0 ≤ labN c
  · simp [h]
  · simp [h]
theorem posL_length (cs : List UInt8) : (posL cs).length ≤ cs.length := by
  unfold posL
  exact Nat.le_trans (List.length_filter_le _ _) (by rw [List.length_map]; omega)
theorem CR.same {w w' : World} {q p g : Nat} {l : List UInt8} {pos pos' : Nat} {b b' : Bool} (h : CR w q p g l pos b) (hw : w = w') (hp : pos = pos') (hb : b = b') : CR w' q p g l pos' b' := by subst hw; subst hp; subst hb; exact h
theorem infoI1 : (Try.prog.info? 3).map (fun i => (i.zero, i.size, i.bytes)) = some (some (.int .i64 0), 1, 8) := by kernel_rfl
/-- what stands between a codec's steps: the reader, the record, the list -/
structure LR (w0 w : World) (q p g b T : Nat) (l : List UInt8) (pos : Nat) (bad : Bool) (x0 x1 v : Value) (L : List Int) : Prop where
  cr : CR w q p g l pos bad
  row : w.heap[b]? = some (.cells #[x0, x1, v] T)
  own : w.ownsRow w0.heap.size 3 1 v L.length (L.map (Value.int .i64))
  fr : Fr [q, p, b] w0 w
theorem LR.set {w0 w : World} {q p g b T : Nat} {l : List UInt8} {pos : Nat} {bad : Bool} {x0 x1 v : Value} {L : List Int} (h : LR w0 w q p g b T l pos bad x0 x1 v L) (hq : q < w0.heap.size) (hbq : b ≠ q) (c : Bool) : LR w0 (w.setCell ⟨q, 2, none⟩ (.bool c)) q p g b T l pos c x0 x1 v L := by
  have hf : Fr [q] w (w.setCell ⟨q, 2, none⟩ (.bool c)) := (Fr.refl _ _).setCell (by simp) _
  exact ⟨h.cr.set c, hf.obj h.row (by simp; exact hbq), own_fr h.own hf (by intro i hi; have := (own_lt h.own hi).1; simp; omega), h.fr.setCell (by simp) _⟩
theorem LR.still {w0 w w' : World} {q p g b T : Nat} {l : List UInt8} {pos : Nat} {bad : Bool} {x0 x1 v : Value} {L : List Int} (h : LR w0 w q p g b T l pos bad x0 x1 v L) (hf : Fr [] w w') : LR w0 w' q p g b T l pos bad x0 x1 v L :=
  ⟨h.cr.fr hf (by simp) (by simp) (by simp), hf.obj h.row (by simp), own_fr h.own hf (by simp), h.fr.trans (hf.mono (by simp))⟩
theorem own_slice {w : World} {B e size n : Nat} {v : Value} {xs : List Value} (h : w.ownsRow B e size v n xs) : ∃ a c, v = .slice a n c := by
  rcases h.2 with ⟨rfl, rfl⟩ | ⟨g, cap, cur, rfl, _⟩
  · exact ⟨none, 0, rfl⟩
  · exact ⟨_, _, rfl⟩
theorem app_fr {w w' : World} {base e size n m : Nat} {v v' : Value} {xs news : List Value} (h : App w w' base e size v v' n m xs news) : Fr v.ownBlock.toList w w' :=
  Fr.of_grown h.grown _ fun k hk _ => by simp [hk]
theorem LR.app {w0 w wx w' : World} {q p g b T cap : Nat} {l : List UInt8} {pos : Nat} {bad : Bool} {x0 x1 v' : Value} {la : Option Addr} {L : List Int} {z : Int} (h : LR w0 w q p g b T l pos bad x0 x1 (.slice la L.length cap) L) (hq : q < w0.heap.size) (hp : p < w0.heap.size) (hg : g < w0.heap.size) (hb : b < w0.heap.size) (hbq : b ≠ q) (hbp : b ≠ p) (hbg : b ≠ g) (hf : Fr [] w wx)
    (ha : App wx w' w0.heap.size 3 1 (.slice la L.length cap) v' L.length 1 (L.map (Value.int .i64)) [.int .i64 z]) : LR w0 (w'.setCell ⟨b, 2, none⟩ v') q p g b T l pos bad x0 x1 v' (L ++ [z]) := by
  have h1 := h.still hf
  have hfa := app_fr ha
  have hne : ∀ i, i < w0.heap.size → i ∉ (Value.slice la L.length cap).ownBlock.toList := by
    intro i hi hm
    have := (own_lt h1.own (g := i) (by simpa using hm)).1
    omega
  have hfs : Fr [b] w' (w'.setCell ⟨b, 2, none⟩ v') := (Fr.refl _ _).setCell (by simp) _
  have hsz := h1.fr.size
  refine ⟨(h1.cr.fr hfa (hne q hq) (hne p hp) (hne g hg)).fr hfs (by simp; exact Ne.symm hbq) (by simp; exact Ne.symm hbp) (by simp; exact Ne.symm hbg), ?_, ?_, (h1.fr.next hfa fun i hi hlt => absurd hi (hne i hlt)).setCell (by simp) _⟩
  · rw [heap_setCell_same w' b 2 _ _ _ (hfa.obj h1.row (hne b hb))]; rfl
  · have ho := ha.own
    rw [show (L.map (Value.int .i64)) ++ [Value.int .i64 z] = (L ++ [z]).map (Value.int .i64) by simp, show L.length + 1 = (L ++ [z]).length by simp] at ho
    refine own_fr ho hfs fun i hi hm => ?_
    obtain rfl : i = b := by simpa using hm
    rcases ha.blk with e | ⟨g', e, hlt⟩
    · exact hne i hb (by rw [← e, hi]; simp)
    · rw [hi] at e
      have := Option.some.inj e
      omega
set_option maxRecDepth 100000 in
set_option maxHeartbeats 3200000 in
theorem labels_R (w : World) (q p g b T : Nat) (l : List UInt8) (pos : Nat) (bad : Bool) (x0 x1 : Value) (h : CR w q p g l pos bad) (hob : w.heap[b]? = some (.cells #[x0, x1, .slice none 0 0] T)) (hqg : g < w.heap.size) (hbq : b ≠ q) (hbp : b ≠ p) (hbg : b ≠ g) (hl : l.length ≤ 1000) (hpos : pos + 8 ≤ l.length) :
    Calls Try.prog 55 #[.pointer (some ⟨q, 0, none⟩), .pointer (some ⟨b, 2, none⟩)] w fun e w' => e = .returned (.tuple #[]) ∧ ∃ v, LR w w' q p g b T l (pos + 8) (labRun ⟨bad, false, -1⟩ (((l.drop pos).take 8).map labN)).bad x0 x1 v (posL ((l.drop pos).take 8)) := by
  have hqs : q < w.heap.size := (Array.getElem?_eq_some_iff.1 h.cod).1
  have hps : p < w.heap.size := h.rd.lt
  have hbs : b < w.heap.size := (Array.getElem?_eq_some_iff.1 hob).1
  have HLR := Lib.hid (show LR w w q p g b T l pos bad x0 x1 (.slice none 0 0) [] from ⟨h, hob, World.ownsRow_nil _ _ _ _, Fr.refl _ _⟩)
  have hx2 := cell_of_row w b 2 _ _ _ hob
  obtain ⟨c0, c1, c2, c2f⟩ := cod_cells h.cod
  clear h hob
  go_enter Try.func55, Try.ntmps55
  go_upto_region 0 with fail
  go_cut [] (fun wx => LR w wx q p g b T l pos bad x0 x1 (.slice none 0 0) [])
  case first =>
    cases bad
    · go_wp2_with fail
      go_meet
      exact HLR.out.set hqs hbq false
    · go_wp2_with fail
      go_meet
      exact HLR.out.set hqs hbq true
  case rest =>
    have HC := Lib.hid hcut
    clear c0 c1 c2 c2f hx2 hcut HLR
    go_wp2_with fail
    go_loopw [22, 4, 5] (fun i la en wr => ∃ (k : Nat) (v : Value), k ≤ 8 ∧ i = .int .i64 k ∧ la = .int .i64 (labRun ⟨bad, false, -1⟩ (((l.drop pos).take k).map labN)).last ∧ en = .bool (labRun ⟨bad, false, -1⟩ (((l.drop pos).take k).map labN)).ended ∧ LR w wr q p g b T l (pos + k) (labRun ⟨bad, false, -1⟩ (((l.drop pos).take k).map labN)).bad x0 x1 v (posL ((l.drop pos).take k))) (fun i _ _ _ => 8 - (intOf i).toNat)
    case atStart => exact ⟨0, .slice none 0 0, by omega, rfl, rfl, rfl, HC.out⟩
    case round =>
      obtain ⟨k, v, hk, rfl, rfl, rfl, hlr⟩ := hrel
      have HLR := Lib.hid hlr
      by_cases hlt : k < 8
      · have hlt' : (k : Int) < 8 := by omega
        have hpk : pos + k < l.length := by omega
        have hsn : (l.drop pos).take (k + 1) = (l.drop pos).take k ++ [l.getD (pos + k) 0] := by
          rw [take_snoc _ k (by rw [List.length_drop]; omega)]
          simp [List.getD, hpk]
        have HRUN := Lib.hid (show labRun ⟨bad, false, -1⟩ (((l.drop pos).take (k + 1)).map labN) = labS (labRun ⟨bad, false, -1⟩ (((l.drop pos).take k).map labN)) (labN (l.getD (pos + k) 0)) by
          rw [hsn, List.map_append]; exact labRun_snoc _ _ _)
        have HPOS := Lib.hid (show posL ((l.drop pos).take (k + 1)) = posL ((l.drop pos).take k) ++ (if 0 ≤ labN (l.getD (pos + k) 0) then [labN (l.getD (pos + k) 0)] else []) by rw [hsn]; exact posL_snoc _ _)
        have HNM := Lib.hid (show (nm l (pos + k) 1 : Int) - 1 = labN (l.getD (pos + k) 0) by rw [nm1_at hpk]; rfl)
        have hLk : (posL ((l.drop pos).take k)).length ≤ k := Nat.le_trans (posL_length _) (by rw [List.length_take]; omega)
        clear hsn hlr
        generalize labRun ⟨bad, false, -1⟩ (((l.drop pos).take k).map labN) = s at HLR HRUN ⊢
        generalize posL ((l.drop pos).take k) = L at HLR HPOS hLk
        generalize labN (l.getD (pos + k) 0) = z at HRUN HPOS HNM
        obtain ⟨sb, se, sl⟩ := s
        obtain ⟨la, cap, rfl⟩ : ∃ la cap, v = .slice la L.length cap := by
          obtain ⟨a, c, e, _⟩ := ints_of_own HLR.out.own
          exact ⟨a, c, e⟩
        go_upto_region 6 with fail
        obtain ⟨w1, hw1⟩ : ∃ w1, w1 = wr.alloc (.cells #[.int .i64 (-1)] 3) := ⟨_, rfl⟩
        rw [← hw1]
        have hf1 : Fr [] wr w1 := by rw [hw1]; exact (Fr.refl _ _).alloc _
        have hno : w1.heap[wr.heap.size]? = some (.cells #[.int .i64 (-1)] 3) := by rw [hw1]; exact heap_alloc_new wr _
        have H1 := Lib.hid (HLR.out.still hf1)
        have HNO := Lib.hid hno
        have hnw : w.heap.size ≤ wr.heap.size := HLR.out.fr.size
        have hvb : ∀ i, Value.ownBlock (.slice la L.length cap) = some i → i < wr.heap.size := fun i hi => (own_lt HLR.out.own hi).2
        have HVB := Lib.hid hvb
        have hx2 := cell_of_row w1 b 2 _ _ _ H1.out.row
        have hd : decide ((k : Int) < (L.length : Int)) = false := decide_eq_false (by omega)
        clear hw1 hf1 hno HLR hvb
        generalize wr.heap.size = nb at HNO hnw HVB ⊢
        go_wp2_with fail
        refine (num_RL w1 q p g l (pos + k) sb 1 nb 0 _ _ (-1) 200 1 H1.out.cr (by unfold Wd; omega) (by omega) HNO.out (by simp) (by omega) (by omega) (by omega) (by omega) hl (by omega)).mono ?_
        rintro e w2 ⟨rfl, h2, hn2, hf2⟩
        rw [HNM.out] at h2 hn2
        have hb3 : b ≠ nb := by omega
        have HLR2 := Lib.hid (show LR w w2 q p g b T l (pos + k + 1) (okN sb z (-1) 200) x0 x1 (.slice la L.length cap) L from
          ⟨h2, hf2.obj H1.out.row (by simp; omega), own_fr H1.out.own hf2 (by intro i hi; have h5 := (own_lt H1.out.own hi).1; have h6 := HVB.out i hi; simp; omega), H1.out.fr.next hf2 (by intro i hi hlt; simp at hi ⊢; omega)⟩)
        have hno2 : w2.heap[nb]? = some (.cells #[.int .i64 z] 3) := by simpa using hn2
        have HNO2 := Lib.hid hno2
        have hx3 := cell_of_row w2 nb 0 _ _ _ hno2
        have hnq : nb ≠ q := by omega
        obtain ⟨c0, c1, c2, c2f⟩ := cod_cells h2.cod
        have HRUN2 := Lib.hid (show labRun ⟨bad, false, -1⟩ (((l.drop pos).take (k + 1)).map labN) = ⟨okN sb z (-1) 200 || (decide (0 ≤ z) && (decide (z ≤ sl) || se)), se || decide (z < 0), z⟩ from HRUN.out)
        clear h2 hn2 hf2 hno2 hx2 hd HRUN H1 HNO
        generalize okN sb z (-1) 200 = B3 at HLR2 c2 HRUN2
        go_upto_region 10 with fail
        go_cut [22] from 22 to 92 (fun i wx => i = .int .i64 k ∧ LR w wx q p g b T l (pos + k + 1) (B3 || (decide (0 ≤ z) && (decide (z ≤ sl) || se))) x0 x1 (.slice la L.length cap) L ∧ wx.heap[nb]? = some (.cells #[.int .i64 z] 3))
        case first =>
          have hK : ∀ c, (w2.setCell ⟨q, 2, none⟩ (.bool c)).heap[nb]? = some (.cells #[.int .i64 z] 3) := fun c => ((Fr.refl [q] w2).setCell (p := ⟨q, 2, none⟩) (by simp) _).obj HNO2.out (by simp; exact hnq)
          have HK := Lib.hid hK
          clear hK
          cases B3
          · by_cases h0 : 0 ≤ z
            · have hd : decide (0 ≤ z) = true := decide_eq_true h0
              by_cases hl : z ≤ sl
              · have hd2 : decide (z ≤ sl) = true := decide_eq_true hl
                go_wp2_with fail
                go_meet
                exact ⟨rfl, by rw [hd, hd2]; exact HLR2.out.set hqs hbq true, HK.out _⟩
              · have hd2 : decide (z ≤ sl) = false := decide_eq_false hl
                cases se
                · go_wp2_with fail
                  go_meet
                  exact ⟨rfl, by rw [hd, hd2]; exact HLR2.out.set hqs hbq false, HK.out _⟩
                · go_wp2_with fail
                  go_meet
                  exact ⟨rfl, by rw [hd, hd2]; exact HLR2.out.set hqs hbq true, HK.out _⟩
            · have hd : decide (0 ≤ z) = false := decide_eq_false h0
              go_wp2_with fail
              go_meet
              exact ⟨rfl, by rw [hd]; exact HLR2.out.set hqs hbq false, HK.out _⟩
          · go_wp2_with fail
            go_meet
            exact ⟨rfl, HLR2.out.set hqs hbq true, HK.out _⟩
        case rest =>
          obtain ⟨rfl, hl4, hno4⟩ := hcut
          have HL4 := Lib.hid hl4
          have HNO4 := Lib.hid hno4
          have hx4 := cell_of_row wc nb 0 _ _ _ hno4
          clear c0 c1 c2 c2f hx3
          obtain ⟨c0, c1, c2, c2f⟩ := cod_cells hl4.cr.cod
          clear hl4 hno4 HLR2 HNO2
          generalize (B3 || (decide (0 ≤ z) && (decide (z ≤ sl) || se))) = B4 at HL4 HRUN2 c2
          go_upto_region 11 with fail
          go_cut [22, 5] from 22 to 92 (fun i en wx => i = .int .i64 k ∧ en = .bool (se || decide (z < 0)) ∧ wx = wc)
          case first =>
            cases se
            · by_cases hl : z < 0
              · have hd : decide (z < 0) = true := decide_eq_true hl
                go_wp2_with fail
                go_meet
                exact ⟨rfl, by rw [hd]; rfl, rfl⟩
              · have hd : decide (z < 0) = false := decide_eq_false hl
                go_wp2_with fail
                go_meet
                exact ⟨rfl, by rw [hd]; rfl, rfl⟩
            · go_wp2_with fail
              go_meet
              exact ⟨rfl, rfl, rfl⟩
          case rest =>
            obtain ⟨rfl, rfl, rfl⟩ := hcut
            generalize (se || decide (z < 0)) = E at HRUN2
            by_cases h0 : 0 ≤ z
            · have hd : decide (0 ≤ z) = true := decide_eq_true h0
              rw [if_pos h0] at HPOS
              have hx2 := cell_of_row wc b 2 _ _ _ HL4.out.row
              go_upto_region 13 with fail
              have HOW := Lib.hid (show ((wc.drew).alloc (.cells #[.int .i64 z] 3)).ownsRow w.heap.size 3 1 (.slice la L.length cap) L.length (L.map (Value.int .i64)) from own_fr HL4.out.own (((Fr.refl [] wc).drew).alloc _) (by simp))
              have hnews : ∀ a, some (⟨wc.heap.size, 0, none⟩ : Addr) = some a → ∀ j u, [Value.int .i64 z][j]? = some u → ((wc.drew).alloc (.cells #[.int .i64 z] 3)).cell? (a.add j) = some u := by
                intro a ha j u hu
                cases ha
                rcases j with _ | j
                · exact (cell_of_row _ wc.heap.size 0 _ _ _ (show ((wc.drew).alloc (.cells #[.int .i64 z] 3)).heap[wc.heap.size]? = some _ from heap_alloc_new wc.drew _)).trans hu
                · simp at hu
              have HNEWS := Lib.hid hnews
              have hsz : w.heap.size ≤ wc.heap.size := HL4.out.fr.size
              have HBB := Lib.hid (show (((wc.drew).alloc (.cells #[.int .i64 z] 3)).heap[b]? = some (.cells #[x0, x1, .slice la L.length cap] T)) from (((Fr.refl [] wc).drew).alloc _).obj HL4.out.row (by simp))
              have HNB := Lib.hid (show b ∉ (Value.slice la L.length cap).ownBlock.toList by intro hm; have := (own_lt HOW.out (g := b) (by simpa using hm)).1; omega)
              clear hnews
              have hblt : b < wc.heap.size := by omega
              go_region_law (refine step_appS rfl (.tmp 86) (.tmp 88) 41 rfl w.heap.size 3 (.int .i64 0) 1 8 Try.underlying41 infoI1 rfl (by decide) (.slice la L.length cap) L.length (L.map (Value.int .i64)) (by simp [Act.eval, Act.put]) HOW.out (some ⟨wc.heap.size, 0, none⟩) 1 1 [.int .i64 z] (by simp [Act.eval, Act.put]) rfl HNEWS.out (fun h => by cases h) (by simp [Value.oneCell']) (by unfold maxLen; omega) (by omega) (by simp; omega) ?_; intro v' w' ha; have hrw := (app_fr ha).obj HBB.out HNB.out; have hx2 := cell_of_row w' b 2 _ _ _ hrw; have hxf := frozen_of_row w' b 2 _ _ hrw; obtain ⟨la', lc', e'⟩ := own_slice ha.own; subst e'; clear hrw)
              all_goals
                have hfx : Fr [] wc ((wc.drew).alloc (.cells #[.int .i64 z] 3)) := ((Fr.refl [] wc).drew).alloc _
                have hL5 := HL4.out.app hqs hps hqg hbs hbq hbp hbg hfx ha
                have hn5 : (w'.setCell ⟨b, 2, none⟩ (.slice la' (L.length + 1) lc')).heap[nb]? = some (.cells #[.int .i64 z] 3) :=
                  ((Fr.refl [b] w').setCell (p := ⟨b, 2, none⟩) (by simp) _).obj ((app_fr ha).obj (hfx.obj HNO4.out (by simp)) (by intro hm; have := HVB.out nb (by simpa using hm); omega)) (by simp; omega)
                have HL5 := Lib.hid hL5
                have hx5 := cell_of_row _ nb 0 _ _ _ hn5
                generalize w'.setCell ⟨b, 2, none⟩ (.slice la' (L.length + 1) lc') = w5 at HL5 hx5 ⊢
                clear hL5 hn5 hfx ha hx2 hxf hx4 c0 c1 c2 c2f
                go_wp2_with fail
                go_roundw
                case rel =>
                  refine ⟨k + 1, .slice la' (L.length + 1) lc', by omega, by go_num, by rw [HRUN2.out], by rw [HRUN2.out], ?_⟩
                  rw [HRUN2.out, HPOS.out]
                  exact HL5.out
                case measure => simp [intOf] <;> omega
            · have hd : decide (0 ≤ z) = false := decide_eq_false h0
              rw [if_neg h0, List.append_nil] at HPOS
              go_wp2_with fail
              go_roundw
              case rel =>
                refine ⟨k + 1, .slice la L.length cap, by omega, by go_num, by rw [HRUN2.out], by rw [HRUN2.out], ?_⟩
                rw [HRUN2.out, HPOS.out]
                exact HL4.out
              case measure => simp [intOf] <;> omega
      · have HE := Lib.hid (show k = 8 by omega)
        clear hlr
        go_wp2
        go_end0
        have h1 := HLR.out
        rw [HE.out] at h1
        exact ⟨rfl, v, h1⟩
end Go.Proofs.Ytbhmfbhfofgfaaa
