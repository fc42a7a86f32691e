/- Record files: Put, Free, Alloc. -/
import Derived.Test.YtibhbfmljibeaaaDoorRfC
import Derived.Deep.RegionHeld3
namespace Go.Proofs.YtibhbfmljibeaaaDoor
open Go.RowKit
attribute [local go_sem ↓] Go.wp_at_zero Go.wp_at_succ
/-- noughts -/
def zs (n : Nat) : List UInt8 := List.replicate n 0
theorem zs_length (n : Nat) : (zs n).length = n := List.length_replicate
theorem B8_0 : B8 0 = .int .u8 0 := by unfold B8; rw [show I8 0 = 0 by decide +kernel]
/-- make([]byte, n) -/
theorem make8 (n : Nat) (hn : n ≤ 1000000) (w : World) : (Instr.makeSlice 23 (.int .i64 (n : Int)) (.int .i64 (n : Int))).run Tryd.prog w = .ok (.slice (some ⟨w.heap.size, 0, none⟩) n n) (w.alloc (.cells ((zs n).map B8).toArray 5)) := by
  obtain ⟨i, hi, hz, hsz, hby⟩ := info_parts info8
  have h := run_make (P := Tryd.prog) w 23 5 i (.int .u8 0) Tryd.underlying23 hi hz .i64 .i64 n n (by omega) (by omega) (by rw [hby]; omega) (by omega)
  rw [h, hsz]
  have e : madeCells (Value.int .u8 0).cells (((n : Int).toNat) * 1) = ((zs n).map B8).toArray := by
    apply Array.ext'
    apply List.ext_getElem?
    intro q
    unfold zs
    rw [List.map_replicate, B8_0]
    by_cases hq : q < n <;> simp [madeCells, Value.cells, Nat.mod_one, List.getElem?_replicate, hq]
  rw [e]
  simp
theorem own_made (w : World) (l : List UInt8) (hl : l.length ≤ 1000000) : (w.alloc (.cells (l.map B8).toArray 5)).ownsRow w.heap.size 5 1 (.slice (some ⟨w.heap.size, 0, none⟩) l.length l.length) l.length (l.map B8) :=
  ⟨by simp, .inr ⟨w.heap.size, l.length, _, rfl, Nat.le_refl _, heap_alloc_new w _, Nat.le_refl _, by unfold maxLen; omega, by simp, by rw [List.take_of_length_le (by simp)]⟩⟩
theorem RF.own {B p : Nat} {bs : List Nat} {w : World} {s : RFS} (h : RF B bs w p s) : B ≤ w.heap.size := by
  obtain ⟨v, X, h, rfl⟩ := h
  have := h.lt p List.mem_cons_self
  omega
/-- Put's error -/
def putE (s : RFS) (id : Int) (n : Nat) : Int := if id < 0 ∨ 65536 ≤ id then 3 else if n + 1 ≠ s.sz then 4 else 0
def putS (s : RFS) (id : Int) (d : List UInt8) : RFS := if putE s id d.length = 0 then s.put id.toNat d else s
theorem putE_id {s : RFS} {id : Int} {n : Nat} (h : id < 0 ∨ 65536 ≤ id) : putE s id n = 3 := if_pos h
theorem putE_len {s : RFS} {id : Int} {n : Nat} (h : ¬ (id < 0 ∨ 65536 ≤ id)) (h2 : n + 1 ≠ s.sz) : putE s id n = 4 := by unfold putE; rw [if_neg h, if_pos h2]
theorem putE_ok {s : RFS} {id : Int} {n : Nat} (h : ¬ (id < 0 ∨ 65536 ≤ id)) (h2 : n + 1 = s.sz) : putE s id n = 0 := by unfold putE; rw [if_neg h, if_neg (by omega)]
theorem putS_not {s : RFS} {id : Int} {d : List UInt8} (h : putE s id d.length ≠ 0) : putS s id d = s := if_neg h
set_option maxRecDepth 100000 in
theorem Put_F (B : Nat) (bs : List Nat) (w : World) (p : Nat) (s : RFS) (id : Int) (a : Option Addr) (c : Nat) (l : List UInt8) (h : RF B bs w p s) (hl : l.length ≤ 140737488351300) (hno : a = none → c = 0) (hb : Bytes w a l) :
    Calls Tryd.prog 19 #[.pointer (some ⟨p, 0, none⟩), .int .i64 id, .slice a l.length c] w fun e w' => e = .returned (.int .i64 (putE s id l.length)) ∧ ∃ bs', RF B bs' w' p (putS s id l) ∧ Stp bs w bs' w' := by
  have hok := h.ok
  have HRF := Lib.hid h
  obtain ⟨v, X, h, rfl⟩ := h
  obtain ⟨x0, x1, x2, x3, x4, x5⟩ := six h.obj
  have HNO := Lib.hid hno
  have HB := Lib.hid hb
  have hlo := hok.lo
  have hhi := hok.hi
  clear hno hb
  by_cases h1 : id < 0
  · have HE := Lib.hid (putE_id (s := s) (id := id) (n := l.length) (.inl h1))
    have HS := Lib.hid (putS_not (s := s) (d := l) (id := id) (by rw [HE.out]; decide))
    clear h hok
    go_enter Tryd.func19, Tryd.ntmps19
    go_wp2
    go_ret
    exact ⟨by rw [HE.out]; rfl, _, by rw [HS.out]; exact HRF.out, Stp.refl _ _⟩
  · by_cases h2 : 65536 ≤ id
    · have HE := Lib.hid (putE_id (s := s) (id := id) (n := l.length) (.inr h2))
      have HS := Lib.hid (putS_not (s := s) (d := l) (id := id) (by rw [HE.out]; decide))
      clear h hok
      go_enter Tryd.func19, Tryd.ntmps19
      go_wp2
      go_ret
      exact ⟨by rw [HE.out]; rfl, _, by rw [HS.out]; exact HRF.out, Stp.refl _ _⟩
    · have e1 : IntKind.i64.wrap ((s.sz : Int) - 1) = ((s.sz - 1 : Nat) : Int) := by rw [IntWalk.i64_in _ (by omega)]; omega
      by_cases h3 : l.length + 1 = s.sz
      · obtain ⟨k, rfl⟩ : ∃ k : Nat, id = k := ⟨id.toNat, by omega⟩
        have HE := Lib.hid (putE_ok (s := s) (id := (k : Int)) (n := l.length) (by omega) h3)
        have HS : Hid (putS s (k : Int) l = s.put k l) := Lib.hid (by unfold putS; rw [HE.out, if_pos rfl]; rfl)
        have h4 : s.sz - 1 = l.length := by omega
        have H := Lib.hid h
        have H3 := Lib.hid h3
        clear h hok h3
        go_enter Tryd.func19, Tryd.ntmps19
        go_wp2_with fail
        refine (Clone_any a c l w (by omega) HNO.out HB.out).mono ?_
        rintro e w1 ⟨v1, rfl, hv1⟩
        obtain ⟨g, cap, rfl, hg, hgl, -⟩ := hv1.addr (by omega)
        have hf1 := hv1.2
        have hset := set_F B p w1 v X s k ⟨some ⟨g, 0, none⟩, cap, l⟩ (H.out.keep hf1) (by omega) (by have := HRF.out.own; have := hf1.size; omega) (own_base hv1.1 HRF.out.own) rfl H3.out (by
          intro i hi hm
          have e : g = i := by simpa [LI.v, Value.ownBlock] using hi
          subst e
          have := (H.out.lt _ hm).2
          omega)
        have HSET := Lib.hid hset
        have HG := Lib.hid hg
        have HF1 := Lib.hid hf1
        clear hv1 hf1 hset hg hgl
        go_wp2_with fail
        refine HSET.out.mono ?_
        rintro e w2 ⟨⟨v2, rfl⟩, bs', h1, h2, h3⟩
        have HR2 := Lib.hid h1
        have HT2 : Hid (Stp (rfB p v X) w bs' w2) := Lib.hid ⟨(HF1.out.mono (by simp)).trans h2, fun i hi => by
          rcases h3 i hi with h | h | h
          · exact .inl h
          · exact .inr (Nat.le_trans HF1.out.size h)
          · have e : g = i := by simpa [LI.v, Value.ownBlock] using h
            exact .inr (e ▸ HG.out)⟩
        clear h1 h2 h3
        go_wp2
        go_ret
        exact ⟨by rw [HE.out]; rfl, bs', by rw [HS.out]; exact HR2.out, HT2.out⟩
      · have HE := Lib.hid (putE_len (s := s) (id := id) (n := l.length) (by omega) h3)
        have HS := Lib.hid (putS_not (s := s) (d := l) (id := id) (by rw [HE.out]; decide))
        have h4 : ¬ l.length = s.sz - 1 := by omega
        clear h hok
        go_enter Tryd.func19, Tryd.ntmps19
        go_wp2
        go_ret
        exact ⟨by rw [HE.out]; rfl, _, by rw [HS.out]; exact HRF.out, Stp.refl _ _⟩
/-- Free's error -/
def freE (s : RFS) (id : Int) : Int := if usedR s.R id = true then 0 else 3
def freS (s : RFS) (id : Int) : RFS := if usedR s.R id = true then { s with R := freeR s.R id.toNat, low := min s.low id.toNat } else s
theorem RFS.Ok.free {s : RFS} (h : s.Ok) (k : Nat) : RFS.Ok { s with R := freeR s.R k, low := min s.low k } := by
  refine ⟨h.kd, h.vr, h.lo, h.hi, ?_, h.dat.free k, fun i hi => ?_⟩
  · show (s.R.set k none).length ≤ 65536
    rw [List.length_set]; exact h.len
  · have hi' : i < min s.low k := hi
    obtain ⟨d, hd⟩ := h.low i (by omega)
    refine ⟨d, ?_⟩
    show (s.R.set k none)[i]? = _
    rw [List.getElem?_set_ne (by omega)]
    exact hd
theorem RFH.unlay {w : World} {B p g n c k : Nat} {X : List LI} {s : RFS} (h : RFH w B p (.slice (some ⟨g, 0, none⟩) n c) X s) (hk : k < X.length) (hu : (s.R.getD k none).isSome = true) {w2 : World} (hw2 : w2 = ((w.setCell ⟨g, k, none⟩ (.slice none 0 0)).setCell ⟨p, 4, none⟩ (.int .i64 ((liveN (freeR s.R k) : Nat) : Int))).setCell ⟨p, 5, none⟩ (.int .i64 ((min s.low k : Nat) : Int))) :
    RF B (rfB p (.slice (some ⟨g, 0, none⟩) n c) (X.set k LI.no)) w2 p { s with R := freeR s.R k, low := min s.low k } ∧ Stp (rfB p (.slice (some ⟨g, 0, none⟩) n c) X) w (rfB p (.slice (some ⟨g, 0, none⟩) n c) (X.set k LI.no)) w2 := by
  have hne : p ≠ g := fun e => h.ne (by rw [e]; rfl)
  have hr := h.recs.set (k := k) (y := LI.no) (World.ownsRow_nil _ _ _ _)
  have hf : Fr [p] (w.setCell ⟨g, k, none⟩ (.slice none 0 0)) w2 := by rw [hw2]; exact ((Fr.refl [p] _).setCell (by simp) _).setCell (by simp) _
  have hob := obj_p (k := k) (v := .slice none 0 0) h.obj hne
  refine ⟨⟨_, _, ⟨?_, ?_, ?_, h.ok.free k, h.base⟩, rfl⟩, ?_, ?_⟩
  · rw [hw2, heap_setCell_same _ p 5 _ _ _ (heap_setCell_same _ p 4 _ _ _ hob)]
    rfl
  · refine hr.fr hf (fun i hi hm => ?_)
    simp at hm
    subst hm
    rcases llB_cases hi with h1 | ⟨x, hx, h1⟩
    · exact h.ne h1
    · exact own_ne (hr.dat x hx) hob (by decide) h1
  · rw [List.map_set, h.opt]; rfl
  · rw [hw2]
    refine Fr.setCell (p := ⟨p, 5, none⟩) (Fr.setCell (p := ⟨p, 4, none⟩) (Fr.setCell (p := ⟨g, k, none⟩) (Fr.refl _ w) (fun _ => List.mem_cons_of_mem _ (llB_v rfl)) _) (fun _ => List.mem_cons_self) _) (fun _ => List.mem_cons_self) _
  · intro i hi
    left
    rcases List.mem_cons.1 hi with rfl | hi
    · exact List.mem_cons_self
    · rcases llB_set hi with hi | hi
      · exact List.mem_cons_of_mem _ hi
      · cases hi
set_option maxRecDepth 100000 in
theorem Free_F (B : Nat) (bs : List Nat) (w : World) (p : Nat) (s : RFS) (id : Int) (h : RF B bs w p s) :
    Calls Tryd.prog 14 #[.pointer (some ⟨p, 0, none⟩), .int .i64 id] w fun e w' => e = .returned (.int .i64 (freE s id)) ∧ ∃ bs', RF B bs' w' p (freS s id) ∧ Stp bs w bs' w' := by
  have HU := Lib.hid (inUse_F B bs w p s id h)
  have HRF := Lib.hid h
  by_cases hu : usedR s.R id = true
  · have HE : Hid (freE s id = 0) := Lib.hid (if_pos hu)
    have HS : Hid (freS s id = { s with R := freeR s.R id.toNat, low := min s.low id.toNat }) := Lib.hid (if_pos hu)
    obtain ⟨h1, h2, d, hd⟩ := usedR_lt hu
    obtain ⟨k, rfl⟩ : ∃ k : Nat, id = k := ⟨id.toNat, by omega⟩
    rw [Int.toNat_natCast] at hd HS
    obtain ⟨v, X, h, rfl⟩ := h
    obtain ⟨x0, x1, x2, x3, x4, x5⟩ := six h.obj
    obtain ⟨a, c, rfl, -⟩ := h.recs.sl
    obtain ⟨g, rfl, -, -⟩ := h.recs.pos (by rw [h.len]; omega)
    obtain ⟨gd, cd, hk, hc, ho, -⟩ := h.at hd
    obtain ⟨-, hz⟩ := h.recs.cell hk
    have hz4 : w.frozen? ⟨p, 4, none⟩ = false := frozen_of_row _ _ 4 _ _ h.obj
    have hz5 : w.frozen? ⟨p, 5, none⟩ = false := frozen_of_row _ _ 5 _ _ h.obj
    have hk3 : (k : Int) < (X.length : Int) := by omega
    have hsm : (s.R.getD k none).isSome = true := by rw [List.getD_eq_getElem?_getD, hd]; rfl
    have hlf := liveN_free s.R k hsm
    have hll : liveN s.R ≤ 65536 := Nat.le_trans (liveN_le _) h.ok.len
    have hXl : X.length ≤ 65536 := by rw [h.len]; exact h.ok.len
    have hlow : s.low ≤ 65536 := Nat.le_trans h.ok.low_le h.ok.len
    have hne : p ≠ g := fun e => h.ne (by rw [e]; rfl)
    obtain ⟨L, hL⟩ : ∃ L, L = liveN (freeR s.R k) := ⟨_, rfl⟩
    have hL2 : liveN s.R = L + 1 := by omega
    rw [hL2] at x4
    have H := Lib.hid h
    have HL := Lib.hid hL
    have HSM := Lib.hid hsm
    have hLb : L ≤ 65536 := by omega
    rw [hu] at HU
    clear h hd ho hu hsm hlf hll hL hL2
    go_enter Tryd.func14, Tryd.ntmps14
    go_wp2_with fail
    refine HU.out.mono ?_
    rintro e w' ⟨rfl, rfl⟩
    go_wp2_with fail
    all_goals
      go_ret
      refine ⟨by rw [HE.out]; rfl, rfB p (.slice (some ⟨g, 0, none⟩) X.length c) (X.set k LI.no), ?_⟩
      rw [HS.out]
      refine H.out.unlay hk HSM.out ?_
      rw [← HL.out]
      first
        | rw [Nat.min_eq_left (by omega)]
        | rw [Nat.min_eq_right (by omega)]
  · have hu' : usedR s.R id = false := by simpa using hu
    have HE : Hid (freE s id = 3) := Lib.hid (if_neg hu)
    have HS : Hid (freS s id = s) := Lib.hid (if_neg hu)
    rw [hu'] at HU
    clear h hu hu'
    go_enter Tryd.func14, Tryd.ntmps14
    go_wp2_with fail
    refine HU.out.mono ?_
    rintro e w' ⟨rfl, rfl⟩
    go_wp2
    go_ret
    exact ⟨by rw [HE.out]; rfl, bs, by rw [HS.out]; exact HRF.out, Stp.refl _ _⟩
end Go.Proofs.YtibhbfmljibeaaaDoor
