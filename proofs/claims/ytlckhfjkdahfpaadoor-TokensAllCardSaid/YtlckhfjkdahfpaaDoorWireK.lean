/- The walks of wire's Reader and of the document's. -/
import Derived.Test.YtlckhfjkdahfpaaDoorWireH
namespace Go.Proofs.YtlckhfjkdahfpaaDoor
open Go.RowKit
attribute [local go_sem] mulU256 wrapU_nat wrapU_I8 wrapU addU mulU remU divU byteU shrU I8_ne I8_eq U_eq U_ne
theorem Clone_some (ad : Addr) (cap : Nat) (l : List UInt8) (w : World) (hl : l.length ≤ 140737488351300) (hb : Bytes w (some ad) l) :
    Calls Tryd.prog 51 #[.slice (some ad) l.length cap] w fun e w' => ∃ v, e = .returned v ∧ Fresh w.heap.size w w' v l := by
  have qT : ∀ (w : World) (a : Option Addr) (n c n' c' : Nat), (binOp .eql 37 (.slice a n c) (.slice none n' c')).run Tryd.prog w = .ok (.bool a.isNone) w := fun w a n c n' c' => Lib.run_eql_slice_nil w _ _ a n c n' c' Tryd.underlying37
  have hb2 : Bytes (w.alloc (.cells #[] 5)) (some ad) l := hb.keep ((Fr.refl _ _).alloc _)
  go_enter Tryd.func51, Tryd.ntmps51
  go_wp2_with (at_builtin; refine wpList_apB _ rfl _ _ 37 rfl w.heap.size 5 Tryd.underlying37 info8 (.slice (some ⟨w.heap.size, 0, none⟩) 0 0) [] rfl (own_empty w 5) (some ad) _ cap l rfl rfl hb2 (fun h => by cases h) (by simp; omega) (by simp) ?_; intro v' w1 happ; have HA := Lib.hid happ; clear happ)
  go_ret
  have ha := HA.out
  exact ⟨v', rfl, Fresh.mk ha.own (fun e => by have := (ha.nil.1 e).1; cases this) (((Fr.refl _ _).alloc _).next ha.fr (by intro i hi hlt; simp [Value.ownBlock] at hi; omega))⟩

/-- a reader of wire's -/
def Rd (w : World) (p : Nat) (lv : Value) (e : Int) : Prop := w.heap[p]? = some (.cells #[lv, .int .i64 e] 125)
theorem Rd.c0 {w : World} {p : Nat} {lv : Value} {e : Int} (h : Rd w p lv e) : w.cell? ⟨p, 0, none⟩ = some lv := cell_of_row _ _ 0 _ _ _ h
theorem Rd.c1 {w : World} {p : Nat} {lv : Value} {e : Int} (h : Rd w p lv e) : w.cell? ⟨p, 1, none⟩ = some (.int .i64 e) := cell_of_row _ _ 1 _ _ _ h
theorem Rd.fz {w : World} {p : Nat} {lv : Value} {e : Int} (h : Rd w p lv e) (j : Nat) : w.frozen? ⟨p, j, none⟩ = false := frozen_of_row w p j _ _ h
theorem Rd.set0 {w : World} {p : Nat} {lv : Value} {e : Int} (h : Rd w p lv e) (u : Value) : Rd (w.setCell ⟨p, 0, none⟩ u) p u e := by
  unfold Rd
  rw [heap_setCell_same w p 0 _ _ _ h]
  rfl
theorem Rd.set1 {w : World} {p : Nat} {lv : Value} {e : Int} (h : Rd w p lv e) (z : Int) : Rd (w.setCell ⟨p, 1, none⟩ (.int .i64 z)) p lv z := by
  unfold Rd
  rw [heap_setCell_same w p 1 _ _ _ h]
  rfl
theorem take_late (p : Nat) (lv x y : Value) (e : Int) (w : World) (h : Rd w p lv e) (he : e ≠ 0) :
    Calls Tryd.prog 79 #[.pointer (some ⟨p, 0, none⟩), x, y] w fun r w' => r = .returned (.slice none 0 0) ∧ w = w' := by
  have hc1 := h.c1
  go_enter Tryd.func79, Tryd.ntmps79
  go_wp2_with fail
  go_ret
  exact ⟨rfl, rfl⟩
theorem take_arg (p : Nat) (g : Option Addr) (r c : Nat) (n : Int) (b : Bool) (w : World) (h : Rd w p (.slice g r c) 0) (hn : b = false ∨ n < 0) :
    Calls Tryd.prog 79 #[.pointer (some ⟨p, 0, none⟩), .int .i64 n, .bool b] w fun e w' => e = .returned (.slice none 0 0) ∧ Rd w' p (.slice none 0 0) 2 ∧ Fr [p] w w' := by
  have hc1 := h.c1
  have hc0 := h.c0
  have hz0 := h.fz 0
  have hz1 := h.fz 1
  have HE := Lib.hid (show Rd ((w.setCell ⟨p, 1, none⟩ (.int .i64 2)).setCell ⟨p, 0, none⟩ (.slice none 0 0)) p (.slice none 0 0) 2 from (h.set1 2).set0 _)
  have HF := Lib.hid (show Fr [p] w ((w.setCell ⟨p, 1, none⟩ (.int .i64 2)).setCell ⟨p, 0, none⟩ (.slice none 0 0)) from ((Fr.refl _ _).setCell (by simp) _).setCell (by simp) _)
  cases b with
  | false =>
    clear hn
    go_enter Tryd.func79, Tryd.ntmps79
    go_wp2_with fail
    go_ret
    exact ⟨rfl, HE.out, HF.out⟩
  | true =>
    have hneg : n < 0 := by simpa using hn
    clear hn
    go_enter Tryd.func79, Tryd.ntmps79
    go_wp2_with fail
    go_ret
    exact ⟨rfl, HE.out, HF.out⟩
theorem take_short (p : Nat) (g : Option Addr) (r c : Nat) (n : Int) (w : World) (h : Rd w p (.slice g r c) 0) (hn : (r : Int) < n) :
    Calls Tryd.prog 79 #[.pointer (some ⟨p, 0, none⟩), .int .i64 n, .bool true] w fun e w' => e = .returned (.slice none 0 0) ∧ Rd w' p (.slice none 0 0) 10 ∧ Fr [p] w w' := by
  have hc1 := h.c1
  have hc0 := h.c0
  have hz0 := h.fz 0
  have hz1 := h.fz 1
  have hpos : ¬ n < 0 := by omega
  have HE := Lib.hid (show Rd ((w.setCell ⟨p, 1, none⟩ (.int .i64 10)).setCell ⟨p, 0, none⟩ (.slice none 0 0)) p (.slice none 0 0) 10 from (h.set1 10).set0 _)
  have HF := Lib.hid (show Fr [p] w ((w.setCell ⟨p, 1, none⟩ (.int .i64 10)).setCell ⟨p, 0, none⟩ (.slice none 0 0)) from ((Fr.refl _ _).setCell (by simp) _).setCell (by simp) _)
  go_enter Tryd.func79, Tryd.ntmps79
  go_wp2_with fail
  go_ret
  exact ⟨rfl, HE.out, HF.out⟩
theorem take_yes (p g o r c n : Nat) (w : World) (h : Rd w p (.slice (some ⟨g, o, none⟩) r c) 0) (hn : n ≤ r) (hc : r ≤ c) :
    Calls Tryd.prog 79 #[.pointer (some ⟨p, 0, none⟩), .int .i64 n, .bool true] w fun e w' => e = .returned (.slice (some ⟨g, o, none⟩) n c) ∧ (∃ o', Rd w' p (.slice (some ⟨g, o', none⟩) (r - n) (c - n)) 0 ∧ (n < r → o' = o + n)) ∧ Fr [p] w w' := by
  have hc1 := h.c1
  have hc0 := h.c0
  have hz0 := h.fz 0
  have hz1 := h.fz 1
  have hpos : ¬ (n : Int) < 0 := by omega
  have hle : ¬ (r : Int) < (n : Int) := by omega
  by_cases hcn : c = n
  · have hrn : r = n := by omega
    subst hrn
    subst hcn
    have HE := Lib.hid (show Rd (w.setCell ⟨p, 0, none⟩ (.slice (some ⟨g, o, none⟩) 0 0)) p (.slice (some ⟨g, o, none⟩) 0 0) 0 from h.set0 _)
    have HF := Lib.hid (show Fr [p] w (w.setCell ⟨p, 0, none⟩ (.slice (some ⟨g, o, none⟩) 0 0)) from (Fr.refl _ _).setCell (by simp) _)
    go_enter Tryd.func79, Tryd.ntmps79
    go_wp2_with fail
    go_ret
    exact ⟨rfl, ⟨o, HE.out⟩, HF.out⟩
  · have HE := Lib.hid (show Rd (w.setCell ⟨p, 0, none⟩ (.slice (some ⟨g, o + n, none⟩) (r - n) (c - n))) p (.slice (some ⟨g, o + n, none⟩) (r - n) (c - n)) 0 from h.set0 _)
    have HF := Lib.hid (show Fr [p] w (w.setCell ⟨p, 0, none⟩ (.slice (some ⟨g, o + n, none⟩) (r - n) (c - n))) from (Fr.refl _ _).setCell (by simp) _)
    go_enter Tryd.func79, Tryd.ntmps79
    go_wp2_with fail
    go_ret
    exact ⟨rfl, ⟨o + n, HE.out, fun _ => rfl⟩, HF.out⟩
theorem NewReader_any (ad : Addr) (cap : Nat) (l : List UInt8) (w : World) (hl : l.length ≤ 140737488351300) (hb : Bytes w (some ad) l) :
    Calls Tryd.prog 69 #[.slice (some ad) l.length cap] w fun e w' => ∃ p g c, e = .returned (.pointer (some ⟨p, 0, none⟩)) ∧ Rd w' p (.slice (some ⟨g, 0, none⟩) l.length c) 0 ∧ l.length ≤ c ∧ Bytes w' (some ⟨g, 0, none⟩) l ∧ w.heap.size ≤ g ∧ g < p ∧ p < w'.heap.size ∧ Fr [] w w' := by
  go_enter Tryd.func69, Tryd.ntmps69
  go_wp2_with fail
  refine (Clone_some ad cap l w hl hb).mono ?_
  rintro e w1 ⟨v, rfl, hfr⟩
  obtain ⟨g, c, rfl, hg, hlt, hb1, hf1⟩ := hfr.bytes
  have hcap := hfr.cap
  go_wp2_with fail
  go_ret
  exact ⟨_, g, c, rfl, heap_alloc_new w1 _, hcap, hb1.keep ((Fr.refl _ _).alloc _), hg, hlt, by simp, hf1.alloc _⟩
end Go.Proofs.YtlckhfjkdahfpaaDoor

/- What a reader's calls do to its state: the walks of wire's Reader and of the document's at once. -/
namespace Go.Proofs.YtlckhfjkdahfpaaDoor
open Go.RowKit
attribute [local go_sem] mulU256 wrapU_nat wrapU_I8 wrapU addU mulU remU divU byteU shrU I8_ne I8_eq U_eq U_ne
def rGood (l : List UInt8) (ok : Bool) (q : Nat) (e n : Int) : Prop := e = 0 ∧ ok = true ∧ 0 ≤ n ∧ n ≤ (l.length : Int) - q
instance (l : List UInt8) (ok : Bool) (q : Nat) (e n : Int) : Decidable (rGood l ok q e n) := by unfold rGood; exact inferInstance
def rTake (l : List UInt8) (ok : Bool) (q : Nat) (e n : Int) : List UInt8 := if rGood l ok q e n then (l.drop q).take n.toNat else []
def rAt (l : List UInt8) (ok : Bool) (q : Nat) (e n : Int) : Nat := if rGood l ok q e n then q + n.toNat else q
def rErr (l : List UInt8) (ok : Bool) (q : Nat) (e n : Int) : Int := if e ≠ 0 then e else if ok = false ∨ n < 0 then 2 else if (l.length : Int) - q < n then 10 else 0
theorem r_cases (l : List UInt8) (ok : Bool) (q : Nat) (e n : Int) : e ≠ 0 ∨ (e = 0 ∧ (ok = false ∨ n < 0)) ∨ (e = 0 ∧ ok = true ∧ 0 ≤ n ∧ (l.length : Int) - q < n) ∨ ∃ k : Nat, e = 0 ∧ ok = true ∧ n = k ∧ (k : Int) ≤ (l.length : Int) - q := by
  by_cases he : e = 0
  · by_cases h1 : ok = false ∨ n < 0
    · exact .inr (.inl ⟨he, h1⟩)
    · have ho : ok = true := by cases ok <;> simp_all
      have hn : 0 ≤ n := by omega
      by_cases h2 : (l.length : Int) - q < n
      · exact .inr (.inr (.inl ⟨he, ho, hn, h2⟩))
      · exact .inr (.inr (.inr ⟨n.toNat, he, ho, by omega, by omega⟩))
  · exact .inl he
theorem r_late {l : List UInt8} {ok : Bool} {q : Nat} {e n : Int} (h : e ≠ 0) : rTake l ok q e n = [] ∧ rAt l ok q e n = q ∧ rErr l ok q e n = e := by
  have hg : ¬ rGood l ok q e n := fun g => h g.1
  exact ⟨if_neg hg, if_neg hg, if_pos h⟩
theorem r_arg {l : List UInt8} {ok : Bool} {q : Nat} {n : Int} (h : ok = false ∨ n < 0) : rTake l ok q 0 n = [] ∧ rAt l ok q 0 n = q ∧ rErr l ok q 0 n = 2 := by
  have hg : ¬ rGood l ok q 0 n := fun g => by
    obtain ⟨_, h1, h2, _⟩ := g
    rcases h with h | h
    · rw [h] at h1; cases h1
    · omega
  exact ⟨if_neg hg, if_neg hg, by unfold rErr; rw [if_neg (by simp), if_pos h]⟩
theorem r_short {l : List UInt8} {q : Nat} {n : Int} (h0 : 0 ≤ n) (h : (l.length : Int) - q < n) : rTake l true q 0 n = [] ∧ rAt l true q 0 n = q ∧ rErr l true q 0 n = 10 := by
  have hg : ¬ rGood l true q 0 n := fun g => by
    obtain ⟨_, _, _, h2⟩ := g
    omega
  exact ⟨if_neg hg, if_neg hg, by unfold rErr; rw [if_neg (by simp), if_neg (by simp; omega), if_pos h]⟩
theorem r_yes {l : List UInt8} {q k : Nat} (h : (k : Int) ≤ (l.length : Int) - q) : rTake l true q 0 k = (l.drop q).take k ∧ rAt l true q 0 k = q + k ∧ rErr l true q 0 k = 0 := by
  have hg : rGood l true q 0 k := ⟨rfl, rfl, by omega, h⟩
  exact ⟨if_pos hg, if_pos hg, by unfold rErr; rw [if_neg (by simp), if_neg (by simp), if_neg (by omega)]⟩
theorem rAt_le {l : List UInt8} {ok : Bool} {q : Nat} {e n : Int} (h : q ≤ l.length) : rAt l ok q e n ≤ l.length := by
  unfold rAt
  split
  · rename_i hg
    obtain ⟨_, _, _, _⟩ := hg
    omega
  · exact h
theorem rTake_length (l : List UInt8) (ok : Bool) (q : Nat) (e n : Int) : (rTake l ok q e n).length ≤ l.length := by
  unfold rTake
  split
  · simp; omega
  · simp

/-- wire's reader in memory -/
structure RdSt (w : World) (l : List UInt8) (p g q : Nat) (e : Int) : Prop where
  rd : ∃ a r c, Rd w p (.slice a r c) e ∧ (e = 0 → ∃ o, a = some ⟨g, o, none⟩ ∧ r = l.length - q ∧ r ≤ c ∧ (q < l.length → o = q)) ∧ (e ≠ 0 → a = none ∧ r = 0 ∧ c = 0)
  le : q ≤ l.length
theorem RdSt.fr {S : List Nat} {w w' : World} {l : List UInt8} {p g q : Nat} {e : Int} (h : RdSt w l p g q e) (hf : Fr S w w') (hp : p ∉ S) : RdSt w' l p g q e := by
  obtain ⟨⟨a, r, c, hr, h1, h2⟩, hle⟩ := h
  exact ⟨⟨a, r, c, hf.obj hr hp, h1, h2⟩, hle⟩
theorem take_any (l : List UInt8) (p g q : Nat) (e n : Int) (ok : Bool) (w : World) (h : RdSt w l p g q e) (hl : l.length ≤ 140737488351300) (hb : Bytes w (some ⟨g, 0, none⟩) l) (hgp : g ≠ p) :
    Calls Tryd.prog 79 #[.pointer (some ⟨p, 0, none⟩), .int .i64 n, .bool ok] w fun x w' => ∃ a c, x = .returned (.slice a (rTake l ok q e n).length c) ∧ Bytes w' a (rTake l ok q e n) ∧ (a = none → c = 0) ∧ RdSt w' l p g (rAt l ok q e n) (rErr l ok q e n) ∧ Fr [p] w w' := by
  have hle := h.le
  obtain ⟨⟨a, r, c, hr, h1, h2⟩, _⟩ := h
  rcases r_cases l ok q e n with he | ⟨rfl, hc⟩ | ⟨rfl, rfl, hn0, hc⟩ | ⟨k, rfl, rfl, rfl, hk⟩
  · obtain ⟨e1, e2, e3⟩ := r_late (l := l) (ok := ok) (q := q) (n := n) he
    rw [e1, e2, e3]
    refine (take_late p _ _ _ e w hr he).mono ?_
    rintro x w' ⟨rfl, rfl⟩
    exact ⟨none, 0, rfl, Bytes.nil _ _, fun _ => rfl, ⟨⟨a, r, c, hr, h1, h2⟩, hle⟩, Fr.refl _ _⟩
  · obtain ⟨e1, e2, e3⟩ := r_arg (l := l) (q := q) hc
    rw [e1, e2, e3]
    refine (take_arg p a r c n ok w hr hc).mono ?_
    rintro x w' ⟨rfl, hr', hf⟩
    exact ⟨none, 0, rfl, Bytes.nil _ _, fun _ => rfl, ⟨⟨none, 0, 0, hr', fun h => absurd h (by decide), fun _ => ⟨rfl, rfl, rfl⟩⟩, hle⟩, hf⟩
  · obtain ⟨e1, e2, e3⟩ := r_short (l := l) (q := q) hn0 hc
    rw [e1, e2, e3]
    obtain ⟨o, rfl, rfl, hrc, ho⟩ := h1 rfl
    refine (take_short p _ _ c n w hr (by omega)).mono ?_
    rintro x w' ⟨rfl, hr', hf⟩
    exact ⟨none, 0, rfl, Bytes.nil _ _, fun _ => rfl, ⟨⟨none, 0, 0, hr', fun h => absurd h (by decide), fun _ => ⟨rfl, rfl, rfl⟩⟩, hle⟩, hf⟩
  · obtain ⟨e1, e2, e3⟩ := r_yes (l := l) (q := q) hk
    rw [e1, e2, e3]
    obtain ⟨o, rfl, rfl, hrc, ho⟩ := h1 rfl
    refine (take_yes p g o _ c k w hr (by omega) hrc).mono ?_
    rintro x w' ⟨rfl, ⟨o', hr', ho'⟩, hf⟩
    have hlen : ((l.drop q).take k).length = k := by rw [List.length_take, List.length_drop]; omega
    refine ⟨some ⟨g, o, none⟩, c, by rw [hlen], ?_, fun h => (by cases h), ⟨⟨_, _, _, hr', fun _ => ⟨o', rfl, by omega, by omega, fun hq => ?_⟩, fun h => absurd rfl h⟩, by omega⟩, hf⟩
    · rcases Nat.eq_zero_or_pos k with h0 | hpos
      · subst h0; exact Or.inl (by simp)
      · rw [ho (by omega)]
        have := (hb.fr hf (.inr fun ad e => by cases e; simpa using hgp)).sub q k (by omega)
        rwa [Nat.zero_add] at this
    · rw [ho' (by omega), ho (by omega)]
theorem RdRaw_any (l : List UInt8) (p g q : Nat) (e n : Int) (w : World) (h : RdSt w l p g q e) (hl : l.length ≤ 140737488351300) (hb : Bytes w (some ⟨g, 0, none⟩) l) (hgp : g ≠ p) :
    Calls Tryd.prog 70 #[.pointer (some ⟨p, 0, none⟩), .int .i64 n] w fun x w' => ∃ v, x = .returned v ∧ w'.ownsRow w.heap.size 5 1 v (rTake l true q e n).length ((rTake l true q e n).map B8) ∧ RdSt w' l p g (rAt l true q e n) (rErr l true q e n) ∧ Fr [p] w w' := by
  obtain ⟨w0, hw0⟩ : ∃ w0, w0 = w := ⟨_, rfl⟩
  have HL := Lib.hid (rTake_length l true q e n)
  have hp : p < w.heap.size := by obtain ⟨⟨_, _, _, hr, _⟩, _⟩ := h; exact (Array.getElem?_eq_some_iff.1 hr).1
  go_enter Tryd.func70, Tryd.ntmps70
  go_wp2_with fail
  refine (take_any l p g q e n true w h hl hb hgp).mono ?_
  rintro x w1 ⟨a, c, rfl, hb1, hn, hst, hf⟩
  have HN := Lib.hid hn; clear hn
  go_wp2_with fail
  refine (Clone_any a c (rTake l true q e n) w1 (by have := HL.out; omega) HN.out hb1).mono ?_
  rintro x w2 ⟨v, rfl, hgot⟩
  go_wp2
  go_ret
  exact ⟨v, rfl, own_base hgot.1 hf.size, hst.fr hgot.2 (by simp), hf.next hgot.2 (by simp)⟩
/-- the number of a read -/
def rNum (l : List UInt8) (q : Nat) (e z : Int) : Nat := be (rTake l (isWd z) q e z)
theorem RdNum_any (l : List UInt8) (p g q : Nat) (e z : Int) (w : World) (h : RdSt w l p g q e) (hl : l.length ≤ 140737488351300) (hb : Bytes w (some ⟨g, 0, none⟩) l) (hgp : g ≠ p) :
    Calls Tryd.prog 71 #[.pointer (some ⟨p, 0, none⟩), .int .i64 z] w fun x w' => x = .returned (.int .u64 (U (rNum l q e z))) ∧ RdSt w' l p g (rAt l (isWd z) q e z) (rErr l (isWd z) q e z) ∧ Fr [p] w w' := by
  have H8 : (rTake l (isWd z) q e z).length ≤ 8 := by
    unfold rTake
    split
    · rename_i hg
      obtain ⟨wd, rfl, hw⟩ := isWd_of z hg.2.1
      have := hw.le
      simp; omega
    · simp
  have HL := Lib.hid H8; clear H8
  go_enter Tryd.func71, Tryd.ntmps71
  go_wp2_with fail
  refine (isWidth_any z w).mono ?_
  rintro x w' ⟨rfl, rfl⟩
  go_wp2_with fail
  refine (take_any l p g q e z (isWd z) w h hl hb hgp).mono ?_
  rintro x w1 ⟨a, c, rfl, hb1, hn, hst, hf⟩
  clear hn
  go_wp2_with fail
  refine (number_any a c (rTake l (isWd z) q e z) w1 HL.out hb1).mono ?_
  rintro x w2 ⟨rfl, rfl⟩
  go_wp2
  go_ret
  exact ⟨rfl, hst, hf⟩

/-! the document's -/
end Go.Proofs.YtlckhfjkdahfpaaDoor
