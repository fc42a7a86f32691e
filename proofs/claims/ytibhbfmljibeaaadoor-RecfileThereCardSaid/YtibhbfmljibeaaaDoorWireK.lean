/- What a reader's calls do to its state: the walks of wire's Reader and of the document's at once. -/
import Derived.Test.YtibhbfmljibeaaaDoorWireJ
namespace Go.Proofs.YtibhbfmljibeaaaDoor
open Go.RowKit
attribute [local go_sem] mulU256 wrapU_nat wrapU_I8 wrapU addU mulU remU divU byteU shrU I8_ne I8_eq U_eq U_ne
def rGood (l : List UInt8) (ok : Bool) (q : Nat) (e n : Int) : Prop := e = 0 ∧ ok = true ∧ 0 ≤ n ∧ n ≤ (l.length : Int) - q
instance (l : List UInt8) (ok : Bool) (q : Nat) (e n : Int) : Decidable (rGood l ok q e n) := by unfold rGood; exact inferInstance
def rTake (l : List UInt8) (ok : Bool) (q : Nat) (e n : Int) : List UInt8 := if rGood l ok q e n then (l.drop q).take n.toNat else []
def rAt (l : List UInt8) (ok : Bool) (q : Nat) (e n : Int) : Nat := if rGood l ok q e n then q + n.toNat else q
def rErr (l : List UInt8) (ok : Bool) (q : Nat) (e n : Int) : Int := if e ≠ 0 then e else if ok = false ∨ n < 0 then 2 else if (l.length : Int) - q < n then 10 else 0
theorem r_cases (l : List UInt8) (ok : Bool) (q : Nat) (e n : Int) : e ≠ 0 ∨ (e = 0 ∧ (ok = false ∨ n < 0)) ∨ (e = 0 ∧ ok = true ∧ 0 ≤ n ∧ (l.length : Int) - q < n) ∨ ∃ k : Nat, e = 0 ∧ ok = true ∧ n = k ∧ (k : Int) ≤ (l.length : Int) - q := by
  by_cases he : e = 0
  · by_cases h1 : ok = false ∨ n < 0
    · exact .inr (.inl ⟨he, h1⟩)
    · have ho : ok = true := by cases ok <;> simp_all
      have hn : 0 ≤ n := by omega
      by_cases h2 : (l.length : Int) - q < n
      · exact .inr (.inr (.inl ⟨he, ho, hn, h2⟩))
      · exact .inr (.inr (.inr ⟨n.toNat, he, ho, by omega, by omega⟩))
  · exact .inl he
theorem r_late {l : List UInt8} {ok : Bool} {q : Nat} {e n : Int} (h : e ≠ 0) : rTake l ok q e n = [] ∧ rAt l ok q e n = q ∧ rErr l ok q e n = e := by
  have hg : ¬ rGood l ok q e n := fun g => h g.1
  exact ⟨if_neg hg, if_neg hg, if_pos h⟩
theorem r_arg {l : List UInt8} {ok : Bool} {q : Nat} {n : Int} (h : ok = false ∨ n < 0) : rTake l ok q 0 n = [] ∧ rAt l ok q 0 n = q ∧ rErr l ok q 0 n = 2 := by
  have hg : ¬ rGood l ok q 0 n := fun g => by
    obtain ⟨_, h1, h2, _⟩ := g
    rcases h with h | h
    · rw [h] at h1; cases h1
    · omega
  exact ⟨if_neg hg, if_neg hg, by unfold rErr; rw [if_neg (by simp), if_pos h]⟩
theorem r_short {l : List UInt8} {q : Nat} {n : Int} (h0 : 0 ≤ n) (h : (l.length : Int) - q < n) : rTake l true q 0 n = [] ∧ rAt l true q 0 n = q ∧ rErr l true q 0 n = 10 := by
  have hg : ¬ rGood l true q 0 n := fun g => by
    obtain ⟨_, _, _, h2⟩ := g
    omega
  exact ⟨if_neg hg, if_neg hg, by unfold rErr; rw [if_neg (by simp), if_neg (by simp; omega), if_pos h]⟩
theorem r_yes {l : List UInt8} {q k : Nat} (h : (k : Int) ≤ (l.length : Int) - q) : rTake l true q 0 k = (l.drop q).take k ∧ rAt l true q 0 k = q + k ∧ rErr l true q 0 k = 0 := by
  have hg : rGood l true q 0 k := ⟨rfl, rfl, by omega, h⟩
  exact ⟨if_pos hg, if_pos hg, by unfold rErr; rw [if_neg (by simp), if_neg (by simp), if_neg (by omega)]⟩
theorem rAt_le {l : List UInt8} {ok : Bool} {q : Nat} {e n : Int} (h : q ≤ l.length) : rAt l ok q e n ≤ l.length := by
  unfold rAt
  split
  · rename_i hg
    obtain ⟨_, _, _, _⟩ := hg
    omega
  · exact h
theorem rTake_length (l : List UInt8) (ok : Bool) (q : Nat) (e n : Int) : (rTake l ok q e n).length ≤ l.length := by
  unfold rTake
  split
  · simp; omega
  · simp

/-- wire's reader in memory -/
structure RdSt (w : World) (l : List UInt8) (p g q : Nat) (e : Int) : Prop where
  rd : ∃ a r c, Rd w p (.slice a r c) e ∧ (e = 0 → ∃ o, a = some ⟨g, o, none⟩ ∧ r = l.length - q ∧ r ≤ c ∧ (q < l.length → o = q)) ∧ (e ≠ 0 → a = none ∧ r = 0 ∧ c = 0)
  le : q ≤ l.length
theorem RdSt.fr {S : List Nat} {w w' : World} {l : List UInt8} {p g q : Nat} {e : Int} (h : RdSt w l p g q e) (hf : Fr S w w') (hp : p ∉ S) : RdSt w' l p g q e := by
  obtain ⟨⟨a, r, c, hr, h1, h2⟩, hle⟩ := h
  exact ⟨⟨a, r, c, hf.obj hr hp, h1, h2⟩, hle⟩
theorem take_any (l : List UInt8) (p g q : Nat) (e n : Int) (ok : Bool) (w : World) (h : RdSt w l p g q e) (hl : l.length ≤ 140737488351300) (hb : Bytes w (some ⟨g, 0, none⟩) l) (hgp : g ≠ p) :
    Calls Tryd.prog 70 #[.pointer (some ⟨p, 0, none⟩), .int .i64 n, .bool ok] w fun x w' => ∃ a c, x = .returned (.slice a (rTake l ok q e n).length c) ∧ Bytes w' a (rTake l ok q e n) ∧ (a = none → c = 0) ∧ RdSt w' l p g (rAt l ok q e n) (rErr l ok q e n) ∧ Fr [p] w w' := by
  have hle := h.le
  obtain ⟨⟨a, r, c, hr, h1, h2⟩, _⟩ := h
  rcases r_cases l ok q e n with he | ⟨rfl, hc⟩ | ⟨rfl, rfl, hn0, hc⟩ | ⟨k, rfl, rfl, rfl, hk⟩
  · obtain ⟨e1, e2, e3⟩ := r_late (l := l) (ok := ok) (q := q) (n := n) he
    rw [e1, e2, e3]
    refine (take_late p _ _ _ e w hr he).mono ?_
    rintro x w' ⟨rfl, rfl⟩
    exact ⟨none, 0, rfl, Bytes.nil _ _, fun _ => rfl, ⟨⟨a, r, c, hr, h1, h2⟩, hle⟩, Fr.refl _ _⟩
  · obtain ⟨e1, e2, e3⟩ := r_arg (l := l) (q := q) hc
    rw [e1, e2, e3]
    refine (take_arg p a r c n ok w hr hc).mono ?_
    rintro x w' ⟨rfl, hr', hf⟩
    exact ⟨none, 0, rfl, Bytes.nil _ _, fun _ => rfl, ⟨⟨none, 0, 0, hr', fun h => absurd h (by decide), fun _ => ⟨rfl, rfl, rfl⟩⟩, hle⟩, hf⟩
  · obtain ⟨e1, e2, e3⟩ := r_short (l := l) (q := q) hn0 hc
    rw [e1, e2, e3]
    obtain ⟨o, rfl, rfl, hrc, ho⟩ := h1 rfl
    refine (take_short p _ _ c n w hr (by omega)).mono ?_
    rintro x w' ⟨rfl, hr', hf⟩
    exact ⟨none, 0, rfl, Bytes.nil _ _, fun _ => rfl, ⟨⟨none, 0, 0, hr', fun h => absurd h (by decide), fun _ => ⟨rfl, rfl, rfl⟩⟩, hle⟩, hf⟩
  · obtain ⟨e1, e2, e3⟩ := r_yes (l := l) (q := q) hk
    rw [e1, e2, e3]
    obtain ⟨o, rfl, rfl, hrc, ho⟩ := h1 rfl
    refine (take_yes p g o _ c k w hr (by omega) hrc).mono ?_
    rintro x w' ⟨rfl, ⟨o', hr', ho'⟩, hf⟩
    have hlen : ((l.drop q).take k).length = k := by rw [List.length_take, List.length_drop]; omega
    refine ⟨some ⟨g, o, none⟩, c, by rw [hlen], ?_, fun h => (by cases h), ⟨⟨_, _, _, hr', fun _ => ⟨o', rfl, by omega, by omega, fun hq => ?_⟩, fun h => absurd rfl h⟩, by omega⟩, hf⟩
    · rcases Nat.eq_zero_or_pos k with h0 | hpos
      · subst h0; exact Or.inl (by simp)
      · rw [ho (by omega)]
        have := (hb.fr hf (.inr fun ad e => by cases e; simpa using hgp)).sub q k (by omega)
        rwa [Nat.zero_add] at this
    · rw [ho' (by omega), ho (by omega)]
theorem RdRaw_any (l : List UInt8) (p g q : Nat) (e n : Int) (w : World) (h : RdSt w l p g q e) (hl : l.length ≤ 140737488351300) (hb : Bytes w (some ⟨g, 0, none⟩) l) (hgp : g ≠ p) :
    Calls Tryd.prog 61 #[.pointer (some ⟨p, 0, none⟩), .int .i64 n] w fun x w' => ∃ v, x = .returned v ∧ w'.ownsRow w.heap.size 5 1 v (rTake l true q e n).length ((rTake l true q e n).map B8) ∧ RdSt w' l p g (rAt l true q e n) (rErr l true q e n) ∧ Fr [p] w w' := by
  obtain ⟨w0, hw0⟩ : ∃ w0, w0 = w := ⟨_, rfl⟩
  have HL := Lib.hid (rTake_length l true q e n)
  have hp : p < w.heap.size := by obtain ⟨⟨_, _, _, hr, _⟩, _⟩ := h; exact (Array.getElem?_eq_some_iff.1 hr).1
  go_enter Tryd.func61, Tryd.ntmps61
  go_wp2_with fail
  refine (take_any l p g q e n true w h hl hb hgp).mono ?_
  rintro x w1 ⟨a, c, rfl, hb1, hn, hst, hf⟩
  have HN := Lib.hid hn; clear hn
  go_wp2_with fail
  refine (Clone_any a c (rTake l true q e n) w1 (by have := HL.out; omega) HN.out hb1).mono ?_
  rintro x w2 ⟨v, rfl, hgot⟩
  go_wp2
  go_ret
  exact ⟨v, rfl, own_base hgot.1 hf.size, hst.fr hgot.2 (by simp), hf.next hgot.2 (by simp)⟩
/-- the number of a read -/
def rNum (l : List UInt8) (q : Nat) (e z : Int) : Nat := be (rTake l (isWd z) q e z)
theorem RdNum_any (l : List UInt8) (p g q : Nat) (e z : Int) (w : World) (h : RdSt w l p g q e) (hl : l.length ≤ 140737488351300) (hb : Bytes w (some ⟨g, 0, none⟩) l) (hgp : g ≠ p) :
    Calls Tryd.prog 62 #[.pointer (some ⟨p, 0, none⟩), .int .i64 z] w fun x w' => x = .returned (.int .u64 (U (rNum l q e z))) ∧ RdSt w' l p g (rAt l (isWd z) q e z) (rErr l (isWd z) q e z) ∧ Fr [p] w w' := by
  have H8 : (rTake l (isWd z) q e z).length ≤ 8 := by
    unfold rTake
    split
    · rename_i hg
      obtain ⟨wd, rfl, hw⟩ := isWd_of z hg.2.1
      have := hw.le
      simp; omega
    · simp
  have HL := Lib.hid H8; clear H8
  go_enter Tryd.func62, Tryd.ntmps62
  go_wp2_with fail
  refine (isWidth_any z w).mono ?_
  rintro x w' ⟨rfl, rfl⟩
  go_wp2_with fail
  refine (take_any l p g q e z (isWd z) w h hl hb hgp).mono ?_
  rintro x w1 ⟨a, c, rfl, hb1, hn, hst, hf⟩
  clear hn
  go_wp2_with fail
  refine (number_any a c (rTake l (isWd z) q e z) w1 HL.out hb1).mono ?_
  rintro x w2 ⟨rfl, rfl⟩
  go_wp2
  go_ret
  exact ⟨rfl, hst, hf⟩

/-! the document's -/
end Go.Proofs.YtibhbfmljibeaaaDoor
