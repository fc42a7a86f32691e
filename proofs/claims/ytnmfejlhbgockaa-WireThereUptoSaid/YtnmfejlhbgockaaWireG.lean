/- The walks of spoil and of wire's Writer. -/
import Derived.Test.YtnmfejlhbgockaaWireE
namespace Go.Proofs.Ytnmfejlhbgockaa
open Go.RowKit
attribute [local go_sem] mulU256 wrapU_nat wrapU_I8 wrapU addU mulU remU divU byteU shrU I8_ne I8_eq U_eq U_ne

theorem Bytes.new {w : World} {arr : Array Value} {t : Nat} {fr : Nat × Nat} {g : Nat} (l : List UInt8) (hg : g = w.heap.size) (ha : arr = (l.map B8).toArray) : Bytes (w.alloc (.cells arr t fr)) (some ⟨g, 0, none⟩) l := by
  subst ha
  subst hg
  refine Or.inr ⟨w.heap.size, 0, rfl, fun j hj => ?_⟩
  rw [Nat.zero_add, cell_of_row _ _ j _ t fr (heap_alloc_new w _), List.getElem?_toArray]
  simp [List.getD, hj]
/-- a shorter value of the same block -/
theorem own_pre {w w0 : World} {B e : Nat} {u v : Value} {xs ys : List UInt8} (hv : w0.ownsRow B e 1 v xs.length (xs.map B8)) (hu0 : w0.ownsRow B e 1 u (xs ++ ys).length ((xs ++ ys).map B8))
    (hu : w.ownsRow B e 1 u (xs ++ ys).length ((xs ++ ys).map B8)) (hb : u.ownBlock = v.ownBlock) : w.ownsRow B e 1 v xs.length (xs.map B8) := by
  refine ⟨by simp, ?_⟩
  rcases hv.2 with ⟨rfl, h0⟩ | ⟨g, cap, cur, rfl, hg, hh, hn, hm, hs, ht⟩
  · exact .inl ⟨rfl, h0⟩
  rcases hu0.2 with ⟨rfl, h0⟩ | ⟨g', cap', cur', rfl, hg', hh', hn', hm', hs', ht'⟩
  · simp [Value.ownBlock] at hb
  simp only [Value.ownBlock, Option.some.injEq] at hb
  subst hb
  rw [hh'] at hh
  simp only [Option.some.injEq, Obj.cells.injEq, true_and, and_true] at hh
  subst hh
  have : cap' = cap := by omega
  subst this
  rcases hu.2 with ⟨e1, _⟩ | ⟨g2, cap2, cur2, e1, hg2, hh2, hn2, hm2, hs2, ht2⟩
  · cases e1
  simp only [Value.slice.injEq, Option.some.injEq, Addr.mk.injEq] at e1
  obtain ⟨⟨rfl, _⟩, _, rfl⟩ := e1
  refine .inr ⟨g', cap', cur2, rfl, hg, hh2, hn, hm, hs2, ?_⟩
  rw [Nat.mul_one] at ht2 ⊢
  have h3 := congrArg (List.take xs.length) ht2
  rw [List.take_take, List.length_append, Nat.min_eq_left (by omega), List.map_append, List.take_append_of_le_length (by simp)] at h3
  rw [h3, List.take_of_length_le (by simp)]

theorem rep_set (l : List UInt8) (x : UInt8) (k : Nat) (h : k < l.length) : (List.replicate k x ++ l.drop k).set k x = List.replicate (k + 1) x ++ l.drop (k + 1) := by
  rw [List.set_append_right _ _ (by simp), List.length_replicate, Nat.sub_self, List.drop_eq_getElem_cons h, List.set_cons_zero, List.replicate_succ', List.append_assoc]
  rfl
set_option maxHeartbeats 800000 in
theorem spoil_any (B : Nat) (v : Value) (l : List UInt8) (x : UInt8) (w : World) (hl : l.length ≤ 140737488351300) (hown : w.ownsRow B 5 1 v l.length (l.map B8)) (hB : B ≤ w.heap.size) :
    Calls Try.prog 21 #[v, .int .u8 (I8 x)] w fun e w' => e = .returned (.tuple #[]) ∧ w'.ownsRow B 5 1 v l.length ((List.replicate l.length x).map B8) ∧ Fr v.ownBlock.toList w w' := by
  have hsl : ∃ a cap, v = .slice a l.length cap := by
    obtain ⟨a, cap, rfl, _⟩ := Bytes.of_own hown
    exact ⟨a, cap, rfl⟩
  obtain ⟨a, cap, rfl⟩ := hsl
  obtain ⟨v, hv⟩ : ∃ v, v = Value.slice a l.length cap := ⟨_, rfl⟩
  rw [← hv] at hown
  rw [← hv] 
  have HV := Lib.hid hv
  have HO := Lib.hid hown
  subst hv
  clear hown
  go_enter Try.func21, Try.ntmps21
  go_wp2_with fail
  go_loopw [4, 10] (fun _ i wr => ∃ k : Nat, k ≤ l.length ∧ i = .int .i64 k ∧ wr.ownsRow B 5 1 (.slice a l.length cap) l.length ((List.replicate k x ++ l.drop k).map B8) ∧ Fr (Value.ownBlock (.slice a l.length cap)).toList w wr) (fun _ i _ => l.length - (intOf i).toNat)
  case atStart => exact ⟨0, by omega, rfl, by simpa using HO.out, Fr.refl _ _⟩
  case round =>
    obtain ⟨k, hk, rfl, hown, hf⟩ := hrel
    have HL := Lib.hid (show (List.replicate k x ++ l.drop k).length = l.length by simp; omega)
    have hown1 : wr.ownsRow B 5 1 (.slice a l.length cap) (List.replicate k x ++ l.drop k).length ((List.replicate k x ++ l.drop k).map B8) := by rw [HL.out]; exact hown
    have H1 := Lib.hid hown1
    have HF := Lib.hid hf
    clear hown hown1 hf
    by_cases hlt : k < l.length
    · have hblk : ∃ g, a = some ⟨g, 0, none⟩ := by
        rcases H1.out.2 with ⟨e1, e2⟩ | ⟨g, cap', cur, e1, _⟩
        · rw [HL.out] at e2; omega
        · simp only [Value.slice.injEq] at e1
          exact ⟨g, e1.1⟩
      obtain ⟨g, rfl⟩ := hblk
      have hcell : ∃ u, wr.cell? ⟨g, k, none⟩ = some u := by
        have h1 := H1.out
        rw [← HL.out] at h1
        obtain ⟨_, _, e1, hc1⟩ := (own_bytes h1).at (by rw [HL.out]; omega)
        cases e1
        have := hc1 k (by rw [HL.out]; omega)
        rw [Nat.zero_add] at this
        exact ⟨_, this⟩
      obtain ⟨u0, hcell⟩ := hcell
      have hfz := own_free H1.out (g := g) rfl k
      go_wp2_with fail
      go_roundw
      case rel =>
        refine ⟨k + 1, by omega, by go_num, ?_, HF.out.setCell (by simp [Value.ownBlock]) _⟩
        have h1 := H1.out
        rw [← HL.out] at h1
        have h2 := own_set h1 k x
        rw [rep_set l x k hlt, HL.out] at h2
        exact h2
      case measure => simp [intOf] <;> omega
    · have e : List.replicate k x ++ l.drop k = List.replicate l.length x := by rw [show k = l.length by omega]; simp
      have HR := Lib.hid (List.length_replicate (n := l.length) (a := x))
      have hown2 : wr.ownsRow B 5 1 (.slice a l.length cap) (List.replicate l.length x).length ((List.replicate l.length x).map B8) := by
        have h := H1.out
        rw [HL.out, e] at h
        rw [HR.out]
        exact h
      have H2 := Lib.hid hown2
      clear H1 hown2 e HO HL
      obtain ⟨w2, hw2⟩ : ∃ w2, w2 = wr := ⟨_, rfl⟩
      rw [← hw2] at H2 HF ⊢
      clear hw2
      go_wp2_with fail
      go_loopw [5, 6] (fun g i wr => ∃ k : Nat, k ≤ 16 ∧ i = .int .i64 k ∧ wr.ownsRow B 5 1 g (List.replicate l.length x ++ List.replicate k x).length ((List.replicate l.length x ++ List.replicate k x).map B8) ∧ wr.ownsRow B 5 1 (.slice a l.length cap) (List.replicate l.length x).length ((List.replicate l.length x).map B8) ∧ Fr (Value.ownBlock (.slice a l.length cap)).toList w wr ∧ (g.ownBlock = (Value.slice a l.length cap).ownBlock ∨ ∃ b, g.ownBlock = some b ∧ w.heap.size ≤ b ∧ (Value.slice a l.length cap).ownBlock ≠ some b)) (fun _ i _ => 16 - (intOf i).toNat)
      case atStart => exact ⟨0, by omega, rfl, by simpa using H2.out, H2.out, HF.out, .inl rfl⟩
      case round =>
        obtain ⟨k, hk, rfl, hg1, hv1, hf1, hb1⟩ := hrel
        have G1 := Lib.hid hg1
        have V1 := Lib.hid hv1
        have F1 := Lib.hid hf1
        have B1 := Lib.hid hb1
        have HB := Lib.hid hB
        clear hg1 hv1 hf1 hb1
        by_cases hlt2 : k < 16
        · go_wp2_with (at_builtin; refine wpList_apB _ rfl _ _ 22 rfl B 5 Try.underlying22 info8 u5 (List.replicate l.length x ++ List.replicate k x) rfl (own_alloc G1.out _) (some ⟨wr.heap.size, 0, none⟩) 1 1 [x] rfl rfl (Bytes.one x rfl) (fun h => by cases h) (by simp; omega) (by have := F1.out.size; simp; omega) ?_; intro v' w1 happ; have HA := Lib.hid happ; clear happ)
          go_roundw
          case rel =>
            have ha := HA.out
            have hvw := own_alloc V1.out (w := wr) (.cells #[.int .u8 (I8 x)] 5)
            have hgw := own_alloc G1.out (w := wr) (.cells #[.int .u8 (I8 x)] 5)
            refine ⟨k + 1, by omega, by go_num, ?_, ?_, ?_, ?_⟩
            · rw [List.replicate_succ', ← List.append_assoc]; exact ha.own
            · rcases B1.out with h | ⟨b, h, hb, hne⟩
              · exact own_pre hvw hgw ha.old h
              · exact own_fr hvw ha.fr (by intro g hg; rw [h]; simp; intro e; rw [e] at hg; exact hne hg)
            · refine (F1.out.alloc _).next ha.fr ?_
              intro i hi hlt3
              rcases B1.out with h | ⟨b, h, hb, hne⟩
              · rw [h] at hi; exact hi
              · rw [h] at hi; simp at hi; omega
            · rcases ha.blk with h | ⟨b, h, hb⟩
              · rw [h]; exact B1.out
              · have hsz := F1.out.size
                refine .inr ⟨b, h, by simp at hb; omega, fun e => ?_⟩
                have := (own_lt V1.out e).2
                simp at hb; omega
          case measure => simp [intOf] <;> omega
        · clear G1 B1
          go_wp2_with (at_builtin; refine wpList_apB _ rfl _ _ 22 rfl B 5 Try.underlying22 info8 (.slice a l.length cap) (List.replicate l.length x) rfl (own_alloc V1.out _) (some ⟨wr.heap.size, 0, none⟩) 20 20 (List.replicate 20 x) rfl rfl (Bytes.new (List.replicate 20 x) rfl rfl) (fun h => by cases h) (by rw [HR.out]; omega) (by have := F1.out.size; simp; omega) ?_; intro v' w1 happ; have HA := Lib.hid happ; clear happ)
          go_end0
          refine ⟨rfl, ?_, ?_⟩
          · have h := HA.out.old
            rwa [HR.out] at h
          · exact (F1.out.alloc _).next HA.out.fr (fun i hi _ => hi)
end Go.Proofs.Ytnmfejlhbgockaa
