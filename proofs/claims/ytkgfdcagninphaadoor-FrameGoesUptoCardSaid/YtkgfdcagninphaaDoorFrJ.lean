/- Frames: the walk of Feed, joined. -/
import Derived.Test.YtkgfdcagninphaaDoorFrI
namespace Go.Proofs.YtkgfdcagninphaaDoor
open Go.RowKit
attribute [local go_sem ↓] Go.wp_at_zero Go.wp_at_succ
set_option maxRecDepth 100000 in
theorem Feed_bad (B p : Nat) (u v : Value) (l : List UInt8) (X : List FI) (e : Int) (a : Option Addr) (n c : Nat) (w : World) (h : RdS w B p u v l X e) (he : e ≠ 0) :
    Calls Tryd.prog 23 #[.pointer (some ⟨p, 0, none⟩), .slice a n c] w fun x w' => x = .returned (.int .i64 e) ∧ w = w' := by
  obtain ⟨-, -, x0⟩ := trio h.obj
  have he2 : (e == 0) = false := by rw [beq_eq_false_iff_ne]; exact he
  clear h
  go_enter Tryd.func23, Tryd.ntmps23
  go_wp2
  go_ret
  exact ⟨rfl, rfl⟩
theorem bytes_none {w : World} {l : List UInt8} (h : Bytes w none l) : l.length = 0 := by
  rcases h with rfl | ⟨_, _, h, _⟩
  · rfl
  · cases h
/-- what holds at the head of Feed's loop -/
def FeedJ (w : World) (B p : Nat) (S : List Nat) (u v : Value) (L : List UInt8) (X : List FI) (wr : World) (u' v' : Value) (X1 : List FI) (r : List UInt8) (k : Nat) : Prop :=
  RdS wr B p u' v' r (X ++ X1) 0 ∧ r = L.drop k ∧ k ≤ L.length ∧ run L = (X1.map FI.fr ++ (run r).1, k + (run r).2.1, (run r).2.2) ∧ Fr S w wr ∧
    (∀ g, u'.ownBlock = some g → u.ownBlock = some g ∨ w.heap.size ≤ g) ∧ (∀ g, v'.ownBlock = some g → v.ownBlock = some g ∨ w.heap.size ≤ g) ∧ ∀ x ∈ X1, ∀ g, x.v.ownBlock = some g → w.heap.size ≤ g
def restLen (p : Nat) (wr : World) : Nat := match wr.cell? ⟨p, 0, none⟩ with | some (.slice _ k _) => k | _ => 0
theorem restLen_eq {p k c : Nat} {a : Option Addr} {wr : World} (h : wr.cell? ⟨p, 0, none⟩ = some (.slice a k c)) : restLen p wr = k := by unfold restLen; rw [h]
set_option maxRecDepth 100000 in
set_option maxHeartbeats 3200000 in
theorem Feed_ok (B p : Nat) (u v : Value) (l ch : List UInt8) (X : List FI) (a : Option Addr) (c : Nat) (w : World) (h : RdS w B p u v l X 0) (hb : Bytes w a ch) (hno : a = none → c = 0) (hn : Nib w) (hpn : p ≠ 0) (hS : 0 < B)
    (hl : l.length + ch.length ≤ 140737488351300) (hx : X.length + l.length + ch.length ≤ 4398046511000) (hB : B ≤ w.heap.size) :
    Calls Tryd.prog 23 #[.pointer (some ⟨p, 0, none⟩), .slice a ch.length c] w fun x w' => FeedG w w' x B p u v (l ++ ch) X := by
  obtain ⟨ua, uc, hu, _⟩ := h.rest.sl
  obtain ⟨L, hL⟩ : ∃ L, L = l ++ ch := ⟨_, rfl⟩
  have hLl : L.length = l.length + ch.length := by rw [hL, List.length_append]
  obtain ⟨x0, x1, x2⟩ := trio h.obj
  have H := Lib.hid h
  have HRES := Lib.hid h.rest
  rw [hu] at HRES x0
  rw [← hL]
  have HU := Lib.hid hu
  have HLQ := Lib.hid hL
  have HLL := Lib.hid hLl
  clear hu hL hLl
  have HBY := Lib.hid hb
  have HN := Lib.hid hn
  have HNO := Lib.hid hno
  clear h hb hn hno
  go_enter Tryd.func23, Tryd.ntmps23
  go_wp2_with (at_builtin; refine wpList_appO _ rfl _ _ 23 rfl B 5 _ 1 1 Tryd.underlying23 info8 rfl (by decide) (.slice ua l.length uc) l.length (l.map B8) rfl HRES.out a ch.length c (ch.map B8) rfl (by simp) (fun ad e => by subst e; exact HBY.out.news) (fun e => by subst e; exact ⟨bytes_none HBY.out, HNO.out rfl⟩) (B8_one ch) (by unfold maxLen; omega) (by omega) hB ?_; intro v1 w1 ha; obtain ⟨ra, rc, rfl, _⟩ := ha.own.sl; have HA := Lib.hid ha; have hA := ha.fr.obj H.out.obj (fun hm => HRES.out.ty H.out.obj (by decide) (by simpa using hm)); clear ha; obtain ⟨y0, -, -⟩ := trio hA; obtain ⟨z0, -, -⟩ := trio_fz hA; clear hA)
  rw [← HU.out] at HA
  obtain ⟨hr1, hf1, hb1⟩ := H.out.feed rfl HA.out
  have hvb := H.out.ready.lt.1
  have hub := fun g (hg : u.ownBlock = some g) => H.out.rest.lt hg
  obtain ⟨S, hSS⟩ : ∃ S, S = p :: (u.ownBlock.toList ++ v.ownBlock.toList) := ⟨_, rfl⟩
  have hpw : p < w.heap.size := (Array.getElem?_eq_some_iff.1 H.out.obj).1
  have HSS := Lib.hid hSS
  have HNS : Hid (0 ∉ S) := Lib.hid (by
    rw [hSS]
    intro hm
    rcases List.mem_cons.1 hm with hm | hm
    · exact hpn hm.symm
    · rcases List.mem_append.1 hm with hm | hm
      · have := (hub _ (by simpa using hm)).1; omega
      · have := (hvb _ (by simpa using hm)).1; omega)
  have HJ0 : Hid (FeedJ w B p S u v L X (w1.setCell ⟨p, 0, none⟩ (.slice ra (l.length + ch.length) rc)) (.slice ra (l.length + ch.length) rc) v [] L 0) := by
    refine Lib.hid ⟨by rw [List.append_nil, HLQ.out]; exact hr1, rfl, Nat.zero_le _, by simp, ?_, hb1, fun g hg => .inl hg, fun x hx => (List.not_mem_nil hx).elim⟩
    refine hf1.mono ?_
    intro k hk _
    rw [hSS]
    rcases List.mem_cons.1 hk with hk | hk
    · exact hk ▸ List.mem_cons_self
    · exact List.mem_cons_of_mem _ (List.mem_append_left _ hk)
  clear x0 x1 x2 y0 z0 hr1 hf1 hb1 hSS HA HBY hvb hub hpw HLQ
  go_loopw [] (fun wr => ∃ u' v' X1 r k, FeedJ w B p S u v L X wr u' v' X1 r k) (fun wr => restLen p wr)
  case atStart => exact ⟨_, _, _, _, _, HJ0.out⟩
  case round =>
    obtain ⟨u', v', X1, r, k, hJ⟩ := hrel
    obtain ⟨hrd, hr, hk, hrun, hfr, hu', hv', hX1⟩ := hJ
    obtain ⟨XX, hXX⟩ : ∃ XX, XX = X ++ X1 := ⟨_, rfl⟩
    rw [← hXX] at hrd
    have HXX := Lib.hid hXX
    clear hXX
    obtain ⟨ra', rc', rfl, hrc, hra⟩ := hrd.rest.sl
    obtain ⟨va', vc', rfl, _⟩ := hrd.ready.row.sl
    obtain ⟨x0, x1, x2⟩ := trio hrd.obj
    obtain ⟨z0, z1, z2⟩ := trio_fz hrd.obj
    have hrl := restLen_eq x0
    have hrL : r.length ≤ 140737488351300 := by rw [hr, List.length_drop, HLL.out]; omega
    have HRA := Lib.hid hra
    clear hra
    have HRD := Lib.hid hrd
    have HR := Lib.hid hr
    have HRUN := Lib.hid hrun
    have HFR := Lib.hid hfr
    have HU' := Lib.hid hu'
    have HV' := Lib.hid hv'
    have HX1 := Lib.hid hX1
    have HRL := Lib.hid hrl
    clear hrd hr hrun hfr hu' hv' hX1 hrl
    go_wp2_with fail
    refine (one_any ra' rc' r wr hrL hrc HRD.out.rest.bytes (nib_fr HN.out HFR.out HNS.out)).mono ?_
    rintro e w2 ⟨x, rfl, da, dc, rfl, hown, hf⟩
    have hrd2 := HRD.out.keep hf
    clear x0 x1 x2 z0 z1 z2
    obtain ⟨x0, x1, x2⟩ := trio hrd2.obj
    obtain ⟨z0, z1, z2⟩ := trio_fz hrd2.obj
    have hpl : p < w2.heap.size := (Array.getElem?_eq_some_iff.1 hrd2.obj).1
    have HRD2 := Lib.hid hrd2
    have HF2 := Lib.hid (HFR.out.trans (hf.mono (by simp)))
    have HOWN := Lib.hid hown
    clear hrd2 hf hown
    cases ho : one r with
    | cut =>
      simp only [oT, oD, oN, oE, List.length_nil]
      go_wp2
      go_ret
      have hr2 := HRUN.out
      rw [run_cut ho] at hr2
      simp only [List.append_nil, Nat.add_zero] at hr2
      refine ⟨_, _, X1, by rw [hr2]; rfl, ?_, by rw [hr2], ?_, HU'.out, HV'.out, HX1.out⟩
      · rw [hr2]
        simp only [if_true]
        rw [← HR.out]
        rw [← HXX.out]
        exact HRD2.out.keep ((Fr.refl _ _).alloc _)
      · rw [← HSS.out]; exact HF2.out.alloc _
    | long =>
      simp only [oT, oD, oN, oE, List.length_nil]
      go_wp2_with fail
      go_ret
      have hr2 := HRUN.out
      rw [run_long ho] at hr2
      simp only [List.append_nil, Nat.add_zero] at hr2
      have hb := (HRD2.out.bad 1).keep ((Fr.refl [] _).alloc (.cells #[.int .i64 0, .slice da 0 dc] 25))
      refine ⟨.slice none 0 0, _, X1, by rw [hr2]; rfl, ?_, by rw [hr2], ?_, fun g hg => (by cases hg), HV'.out, HX1.out⟩
      · rw [hr2, ← HXX.out]
        exact hb
      · rw [← HSS.out]; exact ((HF2.out.setCell (p := ⟨p, 2, none⟩) (by intro _; rw [HSS.out]; exact List.mem_cons_self) _).setCell (p := ⟨p, 0, none⟩) (by intro _; rw [HSS.out]; exact List.mem_cons_self) _).alloc _
    | bad =>
      simp only [oT, oD, oN, oE, List.length_nil]
      go_wp2_with fail
      go_ret
      have hr2 := HRUN.out
      rw [run_bad ho] at hr2
      simp only [List.append_nil, Nat.add_zero] at hr2
      have hb := (HRD2.out.bad 91).keep ((Fr.refl [] _).alloc (.cells #[.int .i64 0, .slice da 0 dc] 25))
      refine ⟨.slice none 0 0, _, X1, by rw [hr2]; rfl, ?_, by rw [hr2], ?_, fun g hg => (by cases hg), HV'.out, HX1.out⟩
      · rw [hr2, ← HXX.out]
        exact hb
      · rw [← HSS.out]; exact ((HF2.out.setCell (p := ⟨p, 2, none⟩) (by intro _; rw [HSS.out]; exact List.mem_cons_self) _).setCell (p := ⟨p, 0, none⟩) (by intro _; rw [HSS.out]; exact List.mem_cons_self) _).alloc _
    | ok t d =>
      have hown := HOWN.out
      rw [ho] at hown
      obtain ⟨-, -, -, hd1, hd2, -⟩ := one_ok_inv ho
      have HST := Lib.hid (run_step HRUN.out ho)
      simp only [oT, oD, oN, oE] at hown ⊢
      obtain ⟨q, hq⟩ : ∃ q, q = d.length + 9 := ⟨_, rfl⟩
      rw [← hq] at HST hd2 ⊢
      have hq0 : ((q : Int) == 0) = false := by rw [beq_eq_false_iff_ne]; omega
      have hqi : (0 : Int) ≤ (q : Int) := by omega
      have hqc : (q : Int) ≤ (r.length : Int) := by omega
      have hqp : 0 < q := by omega
      have HOWN2 := Lib.hid hown
      clear hown HOWN hq
      obtain ⟨wb, hwb⟩ : ∃ wb, wb = w2.alloc (.cells #[.int .i64 (I8 t), .slice da d.length dc] 25) := ⟨_, rfl⟩
      have HFB := Lib.hid (show Fr [] w2 wb by rw [hwb]; exact (Fr.refl _ _).alloc _)
      have hbx : wb.heap[w2.heap.size]? = some (.cells #[.int .i64 (I8 t), .slice da d.length dc] 25) := by rw [hwb]; exact heap_alloc_new w2 _
      have HBX := Lib.hid hbx
      have hbl : w2.heap.size < wb.heap.size := (Array.getElem?_eq_some_iff.1 hbx).1
      have hrb := HRD2.out.keep HFB.out
      have HRB := Lib.hid hrb
      obtain ⟨b0, b1⟩ := duo hbx
      obtain ⟨p0, p1, p2⟩ := trio hrb.obj
      obtain ⟨f0, f1, f2⟩ := trio_fz hrb.obj
      have HWB := Lib.hid hwb
      clear hwb hbx hrb
      go_upto_region 9 with fail
      rw [← HWB.out]
      clear HWB x0 x1 x2 z0 z1 z2
      have HFC := Lib.hid (show Fr [] wb (wb.drew.alloc (.cells #[.int .i64 (I8 t), .slice da d.length dc] 25)) from ((Fr.refl _ _).drew).alloc _)
      have HRC := Lib.hid (HRB.out.keep HFC.out)
      have HNC := Lib.hid (show (wb.drew.alloc (.cells #[.int .i64 (I8 t), .slice da d.length dc] 25)).heap[wb.heap.size]? = some (.cells #[.int .i64 (I8 t), .slice da d.length dc] 25) from heap_alloc_new wb.drew _)
      have HBC := Lib.hid (show B ≤ (wb.drew.alloc (.cells #[.int .i64 (I8 t), .slice da d.length dc] 25)).heap.size by simp; have := HFR.out.size; have := HF2.out.size; omega)
      have HXL := Lib.hid (show XX.length ≤ 4398046511050 by
        rw [HXX.out]
        have e1 := run_end L
        rw [HRUN.out] at e1
        simp only [List.length_append, List.length_map] at e1 ⊢
        rw [HLL.out] at e1
        omega)
      obtain ⟨pa0, pa1, pa2⟩ := trio (((Fr.refl [] wb).alloc (.cells #[.int .i64 (I8 t), .slice da d.length dc] 25)).obj HRB.out.obj (by simp))
      go_region_law (refine step_appO _ rfl (.tmp 51) (.tmp 53) 35 rfl B 25 _ 2 32 Tryd.underlying35 infoFL rfl (by decide) (.slice va' XX.length vc') XX.length (fiCells XX) (by simp [Act.eval, Act.put]) HRC.out.ready.row (some ⟨wb.heap.size, 0, none⟩) 1 1 [.int .i64 (I8 t), .slice da d.length dc] (by simp [Act.eval, Act.put]) rfl (fr_news HNC.out) (fun h => by cases h) (by simp [Value.oneCell']) (by unfold maxLen; have := HXL.out; omega) (by have := HXL.out; omega) HBC.out ?_; intro v1 wA ha; obtain ⟨xa, xc, rfl, _⟩ := ha.own.sl; have HA := Lib.hid ha; have hA := ha.fr.obj HRC.out.obj (fun hm => HRC.out.ready.row.ty HRC.out.obj (by decide) (by simpa using hm)); clear ha; obtain ⟨y0, y1, y2⟩ := trio hA; obtain ⟨z0, z1, z2⟩ := trio_fz hA; clear hA)
      all_goals
        obtain ⟨h3, hf3, hb3⟩ := HRC.out.push (N := wr.heap.size) (x := ⟨t, da, dc, d⟩) (fun g hg => (HRD.out.rest.lt hg).2) (fun g hg => (HRD.out.ready.lt.1 g hg).2) (fun y hy g hg => (HRD.out.ready.lt.2 y hy g hg).2) (own_fr (own_fr HOWN2.out HFB.out (by simp)) HFC.out (by simp)) (by have := HFR.out.size; omega) HA.out
        have hf4 : Fr S w (wA.setCell ⟨p, 1, none⟩ (.slice xa (XX.length + 1) xc)) := ((HF2.out.trans (HFB.out.mono (by simp))).trans (HFC.out.mono (by simp))).next hf3 (by
          intro i hi hlt
          rw [HSS.out]
          rcases List.mem_cons.1 hi with hi | hi
          · exact hi ▸ List.mem_cons_self
          · rcases HV'.out i (by simpa using hi) with hv | hv
            · exact List.mem_cons_of_mem _ (List.mem_append_right _ (by simpa using hv))
            · omega)
        have hv4 : ∀ g, (Value.slice xa (XX.length + 1) xc).ownBlock = some g → v.ownBlock = some g ∨ w.heap.size ≤ g := by
          intro g hg
          rcases hb3 g hg with h | h
          · exact HV'.out g h
          · have := HFC.out.size; have := HFB.out.size; have := HF2.out.size; omega
        generalize hw3 : wA.setCell ⟨p, 1, none⟩ (.slice xa (XX.length + 1) xc) = w3 at h3 hf4 ⊢
        have H3 := Lib.hid h3
        have HF4 := Lib.hid hf4
        have HV4 := Lib.hid hv4
        clear h3 hf3 hb3 hf4 hv4 hw3 y0 y1 y2 z0 z1 z2 HA pa0 pa1 pa2 b0 b1 p0 p1 p2 f0 f1 f2 hbl hpl
        obtain ⟨y0, y1, y2⟩ := trio H3.out.obj
        obtain ⟨z0, z1, z2⟩ := trio_fz H3.out.obj
        have HCUT : Hid (∀ v', ((rc' - q = 0 ∧ v' = Value.slice ra' (r.length - q) (rc' - q)) ∨ (rc' - q ≠ 0 ∧ ∃ ad, ra' = some ad ∧ v' = .slice (some (ad.add q)) (r.length - q) (rc' - q))) →
            (∃ u' v'' X1 r_1 k, FeedJ w B p S u v L X (w3.setCell ⟨p, 0, none⟩ v') u' v'' X1 r_1 k) ∧ ∀ c n, v' = .slice c n (rc' - q) → n = r.length - q → restLen p (w3.setCell ⟨p, 0, none⟩ v') < restLen p wr) := by
          refine Lib.hid fun v' hv => ?_
          obtain ⟨h5, hf5, hb5⟩ := H3.out.cut q rfl hd2 hqp hv
          refine ⟨⟨v', _, X1 ++ [⟨t, da, dc, d⟩], r.drop q, k + q, ?_, ?_, ?_, ?_, ?_, ?_, HV4.out, ?_⟩, ?_⟩
          · rw [← List.append_assoc, ← HXX.out]; exact h5
          · rw [HR.out, List.drop_drop]
          · have := congrArg List.length HR.out
            rw [List.length_drop] at this
            omega
          · rw [List.map_append]; exact HST.out
          · exact HF4.out.next hf5 (by intro i hi _; rw [HSS.out]; simp at hi; exact hi ▸ List.mem_cons_self)
          · exact fun g hg => HU'.out g (hb5 g hg)
          · intro y hy g hg
            rcases List.mem_append.1 hy with hy | hy
            · exact HX1.out y hy g hg
            · obtain rfl : y = ⟨t, da, dc, d⟩ := by simpa using hy
              have := (own_lt HOWN2.out hg).1
              have := HFR.out.size
              omega
          · intro c n e en
            subst e
            subst en
            rw [restLen_eq (trio h5.obj).1, HRL.out]
            omega
        clear H3 HF4 HV4 HOWN2 HRC HNC HFC HRB HBX HFB HST HXL HBC
        by_cases hcn : rc' = q
        · subst hcn
          go_wp2_with fail
          obtain ⟨c1, c2⟩ := HCUT.out (.slice ra' 0 0) (.inl ⟨by omega, by rw [show r.length - rc' = 0 by omega, show rc' - rc' = 0 by omega]⟩)
          exact ⟨c1, c2 ra' 0 (by simp) (by omega)⟩
        · obtain ⟨ad, had⟩ : ∃ ad, ra' = some ad := by
            cases ra' with
            | none => have := HRA.out rfl; omega
            | some ad => exact ⟨ad, rfl⟩
          subst had
          go_wp2_with fail
          obtain ⟨c1, c2⟩ := HCUT.out (.slice (some (ad.add q)) (r.length - q) (rc' - q)) (.inr ⟨by omega, ad, rfl, rfl⟩)
          exact ⟨c1, c2 _ _ rfl rfl⟩
end Go.Proofs.YtkgfdcagninphaaDoor
