/- The walks of wire's Writer. -/
import Derived.Test.YtlckhfjkdahfpaaDoorWireG
import Derived.Test.YtlckhfjkdahfpaaDoorSep
namespace Go.Proofs.YtlckhfjkdahfpaaDoor
open Go.RowKit
attribute [local go_sem] mulU256 wrapU_nat wrapU_I8 wrapU addU mulU remU divU byteU shrU I8_ne I8_eq U_eq U_ne
theorem NewWriter_any (w : World) : Calls Tryd.prog 58 #[] w fun e w' => e = .returned (.pointer (some ⟨w.heap.size, 0, none⟩)) ∧ w'.heap[w.heap.size]? = some (.cells #[.slice none 0 0] 121) ∧ Fr [] w w' ∧ w.heap.size < w'.heap.size := by
  go_enter Tryd.func58, Tryd.ntmps58
  go_wp2_with fail
  go_ret
  exact ⟨rfl, heap_alloc_new w _, (Fr.refl _ _).alloc _, by simp⟩

/-- what a call leaves that puts bytes into a writer -/
structure Puts (B : Nat) (w w' : World) (p : Nat) (v v' : Value) (l' : List UInt8) : Prop where
  obj : w'.heap[p]? = some (.cells #[v'] 121)
  own : w'.ownsRow B 5 1 v' l'.length (l'.map B8)
  fr : Fr (p :: v.ownBlock.toList) w w'
  blk : v'.ownBlock = v.ownBlock ∨ ∃ g, v'.ownBlock = some g ∧ w.heap.size ≤ g
theorem Puts.mk' {B : Nat} {w w1 : World} {p : Nat} {v v' : Value} {l l' : List UInt8} (ho : w.heap[p]? = some (.cells #[v] 121)) (hne : v.ownBlock ≠ some p)
    (hf : Fr v.ownBlock.toList w w1) (hown : w1.ownsRow B 5 1 v' l'.length (l'.map B8)) (hb : v'.ownBlock = v.ownBlock ∨ ∃ g, v'.ownBlock = some g ∧ w.heap.size ≤ g) : Puts B w (w1.setCell ⟨p, 0, none⟩ v') p v v' l' := by
  have ho1 : w1.heap[p]? = some (.cells #[v] 121) := hf.obj ho (by simpa using hne)
  have hne2 : v'.ownBlock ≠ some p := by
    rcases hb with hb | ⟨g, hb, hg⟩
    · rw [hb]; exact hne
    · rw [hb]
      intro e
      have := Option.some.inj e
      have := (Array.getElem?_eq_some_iff.1 ho).1
      omega
  refine ⟨?_, own_fr hown ((Fr.refl [p] w1).setCell (by simp) v') (by intro g hg; simp; rintro rfl; exact hne2 hg), (hf.mono fun k hk _ => List.mem_cons_of_mem _ hk).setCell (by simp) v', hb⟩
  rw [heap_setCell_same w1 p 0 #[v] _ _ ho1]
  rfl
theorem Sep.puts {w0 w w' : World} {ps : List Nat} (A C : List (Value × List UInt8)) {p : Nat} {v v' : Value} {l l' : List UInt8} (h : Sep w0 w ps (A ++ (v, l) :: C)) (hp : Puts w0.heap.size w w' p v v' l') (hm : p ∈ ps) : Sep w0 w' ps (A ++ (v', l') :: C) :=
  h.turn A C hp.fr (fun i hi => by
    rcases List.mem_cons.1 hi with rfl | hi
    · exact .inl hm
    · exact .inr (by simpa using hi)) hp.own hp.blk
theorem Raw_any (B p : Nat) (v : Value) (l : List UInt8) (a : Option Addr) (cap : Nat) (m : List UInt8) (w : World) (ho : w.heap[p]? = some (.cells #[v] 121)) (hown : w.ownsRow B 5 1 v l.length (l.map B8)) (hne : v.ownBlock ≠ some p) (hB : B ≤ w.heap.size)
    (hb : Bytes w a m) (hnone : a = none → cap = 0) (hroom : l.length + m.length ≤ 140737488355328) :
    Calls Tryd.prog 63 #[.pointer (some ⟨p, 0, none⟩), .slice a m.length cap] w fun e w' => e = .returned (.tuple #[]) ∧ ∃ v', Puts B w w' p v v' (l ++ m) := by
  have hcell : w.cell? ⟨p, 0, none⟩ = some v := cell_of_row _ _ 0 _ _ _ ho
  have HO := Lib.hid ho
  have HN := Lib.hid hnone
  clear ho hnone
  go_enter Tryd.func63, Tryd.ntmps63
  go_wp2_with (at_builtin; refine wpList_apB _ rfl _ _ 37 rfl B 5 Tryd.underlying37 info8 v l rfl hown a _ cap m rfl rfl hb HN.out hroom hB ?_; intro v' w1 happ; obtain ⟨a', cap', rfl, _⟩ := Bytes.of_own happ.own; have hc1 := happ.fr.cell hcell (by simpa using hne); have hz1 := frozen_of_row w1 p 0 _ _ (happ.fr.obj HO.out (by simpa using hne)); have HA := Lib.hid happ; clear happ hcell)
  go_end0
  exact ⟨rfl, _, Puts.mk' (l := l) (l' := l ++ m) HO.out hne HA.out.fr (by simpa only [List.length_append] using HA.out.own) (by simpa only [List.length_append] using HA.out.blk)⟩
theorem Num_no (p : Nat) (z : Int) (x : Value) (w : World) (hz : isWd z = false) :
    Calls Tryd.prog 60 #[.pointer (some ⟨p, 0, none⟩), .int .i64 z, x] w fun e w' => e = .returned (.tuple #[]) ∧ w = w' := by
  go_enter Tryd.func60, Tryd.ntmps60
  go_wp2_with fail
  refine (isWidth_any z w).mono ?_
  rintro e w' ⟨rfl, rfl⟩
  go_wp2
  go_end0
  exact ⟨rfl, rfl⟩
theorem Num_yes (B p : Nat) (v : Value) (l : List UInt8) (wd n : Nat) (w : World) (ho : w.heap[p]? = some (.cells #[v] 121)) (hown : w.ownsRow B 5 1 v l.length (l.map B8)) (hne : v.ownBlock ≠ some p) (hB : B ≤ w.heap.size)
    (hw : Wd wd) (hn : n < 18446744073709551616) (hroom : l.length ≤ 140737488351400) :
    Calls Tryd.prog 60 #[.pointer (some ⟨p, 0, none⟩), .int .i64 wd, .int .u64 (U n)] w fun e w' => e = .returned (.tuple #[]) ∧ ∃ v', Puts B w w' p v v' (l ++ by8 wd n) := by
  have hcell : w.cell? ⟨p, 0, none⟩ = some v := cell_of_row _ _ 0 _ _ _ ho
  have HO := Lib.hid ho
  have hz := isWd_nat wd hw
  clear ho
  go_enter Tryd.func60, Tryd.ntmps60
  go_wp2_with fail
  refine (isWidth_any wd w).mono ?_
  rintro e w' ⟨rfl, rfl⟩
  rw [hz]
  go_wp2_with fail
  refine (lay_own B v l wd n w hw.le hn hroom hown hB).mono ?_
  rintro e w1 ⟨v', rfl, hown2, hf, hblk⟩
  obtain ⟨a', cap', rfl, _⟩ := Bytes.of_own hown2
  have hc1 := hf.cell hcell (by simpa using hne)
  have hz1 := frozen_of_row w1 p 0 _ _ (hf.obj HO.out (by simpa using hne))
  clear hcell
  go_wp2_with fail
  go_end0
  exact ⟨rfl, _, Puts.mk' (l := l) (l' := l ++ by8 wd n) HO.out hne hf (by simpa only [List.length_append] using hown2) (by simpa only [List.length_append] using hblk)⟩
theorem Bytes_any (B p : Nat) (v : Value) (l : List UInt8) (w : World) (ho : w.heap[p]? = some (.cells #[v] 121)) (hown : w.ownsRow B 5 1 v l.length (l.map B8)) (hl : l.length ≤ 140737488351300) :
    Calls Tryd.prog 62 #[.pointer (some ⟨p, 0, none⟩)] w fun e w' => ∃ u, e = .returned u ∧ Got w.heap.size w w' u l := by
  have hcell : w.cell? ⟨p, 0, none⟩ = some v := cell_of_row _ _ 0 _ _ _ ho
  obtain ⟨a, cap, rfl, hb, _, _, hnone, _⟩ := Bytes.of_own hown
  have HN := Lib.hid hnone
  clear ho hown hnone
  go_enter Tryd.func62, Tryd.ntmps62
  go_wp2_with fail
  refine (Clone_any a cap l w hl HN.out hb).mono ?_
  rintro e w1 ⟨u, rfl, hgot⟩
  go_wp2
  go_ret
  exact ⟨u, rfl, hgot⟩
end Go.Proofs.YtlckhfjkdahfpaaDoor
