/- A Writer and a Reader in use: one word for what stands, and each call as a step of it. -/
import Derived.Test.YtlckhfjkdahfpaaDoorRecC
import Derived.Laws.ResultCell
import Derived.Laws.IdiomCopy
namespace Go.Proofs.YtlckhfjkdahfpaaDoor
open Go.RowKit

/-- a Writer, made when the world was w0, holds these bytes -/
structure Wtr (w0 w : World) (p : Nat) (l : List UInt8) : Prop where
  ex : ∃ v, w.heap[p]? = some (.cells #[v] 121) ∧ w.ownsRow w0.heap.size 5 1 v l.length (l.map B8) ∧ v.ownBlock ≠ some p
  lo : w0.heap.size ≤ p
  fr : Fr [] w0 w
theorem Wtr.still {w0 w w' : World} {p : Nat} {l : List UInt8} (h : Wtr w0 w p l) (hf : Fr [] w w') : Wtr w0 w' p l := by
  obtain ⟨v, h1, h2, h3⟩ := h.ex
  exact ⟨⟨v, hf.obj h1 (by simp), own_fr h2 hf (by simp), h3⟩, h.lo, h.fr.trans hf⟩
theorem Wtr.puts {w0 w w' : World} {p : Nat} {v v' : Value} {l l' : List UInt8} (hlo : w0.heap.size ≤ p) (hfr : Fr [] w0 w) (h1 : w.heap[p]? = some (.cells #[v] 121)) (h2 : w.ownsRow w0.heap.size 5 1 v l.length (l.map B8)) (h3 : v.ownBlock ≠ some p)
    (hp : Puts w0.heap.size w w' p v v' l') : Wtr w0 w' p l' := by
  refine ⟨⟨v', hp.obj, hp.own, ?_⟩, hlo, hfr.next hp.fr fun i hi hlt => ?_⟩
  · rcases hp.blk with hb | ⟨g, hb, hg⟩
    · rw [hb]; exact h3
    · rw [hb]; intro e
      have := Option.some.inj e
      have := (Array.getElem?_eq_some_iff.1 h1).1
      omega
  · rcases List.mem_cons.1 hi with rfl | hi
    · omega
    · have := (own_lt h2 (g := i) (by simpa using hi)).1
      omega
theorem NewW (w : World) : Calls Tryd.prog 58 #[] w fun e w' => e = .returned (.pointer (some ⟨w.heap.size, 0, none⟩)) ∧ Wtr w w' w.heap.size [] :=
  (NewWriter_any w).mono fun e w' ⟨h1, h2, h3, h4⟩ => ⟨h1, ⟨_, h2, World.ownsRow_nil _ _ _ _, by simp [Value.ownBlock]⟩, Nat.le_refl _, h3⟩
theorem NumW (w0 w : World) (p : Nat) (l : List UInt8) (wd : Nat) (z : Int) (h : Wtr w0 w p l) (hw : Wd wd) (h0 : 0 ≤ z) (h1 : z < 18446744073709551616) (hroom : l.length ≤ 140737488351300) :
    Calls Tryd.prog 60 #[.pointer (some ⟨p, 0, none⟩), .int .i64 wd, .int .u64 z] w fun e w' => e = .returned (.tuple #[]) ∧ Wtr w0 w' p (l ++ by8 wd z.toNat) := by
  obtain ⟨v, a, b, c⟩ := h.ex
  exact (Num_int w0.heap.size p v l wd z w a b c h.fr.size hw h0 h1 hroom).mono fun e w' ⟨he, v', hp⟩ => ⟨he, Wtr.puts h.lo h.fr a b c hp⟩
theorem RawW (w0 w : World) (p : Nat) (l : List UInt8) (a : Option Addr) (cap : Nat) (m : List UInt8) (h : Wtr w0 w p l) (hb : Bytes w a m) (hnone : a = none → cap = 0) (hroom : l.length + m.length ≤ 140737488355328) :
    Calls Tryd.prog 63 #[.pointer (some ⟨p, 0, none⟩), .slice a m.length cap] w fun e w' => e = .returned (.tuple #[]) ∧ Wtr w0 w' p (l ++ m) := by
  obtain ⟨v, x, y, z⟩ := h.ex
  exact (Raw_any w0.heap.size p v l a cap m w x y z h.fr.size hb hnone hroom).mono fun e w' ⟨he, v', hp⟩ => ⟨he, Wtr.puts h.lo h.fr x y z hp⟩
theorem StrW (w0 w : World) (p : Nat) (l m : List UInt8) (h : Wtr w0 w p l) (hroom : l.length + m.length ≤ 140737488355328) :
    Calls Tryd.prog 59 #[.pointer (some ⟨p, 0, none⟩), .string ⟨m.toArray⟩] w fun e w' => e = .returned (.tuple #[]) ∧ Wtr w0 w' p (l ++ m) := by
  obtain ⟨v, x, y, z⟩ := h.ex
  exact (Str_any w0.heap.size p v l m w x y z h.fr.size hroom).mono fun e w' ⟨he, v', hp⟩ => ⟨he, Wtr.puts h.lo h.fr x y z hp⟩
theorem BytesW (w0 w : World) (p : Nat) (l : List UInt8) (h : Wtr w0 w p l) (hl : l.length ≤ 140737488351300) :
    Calls Tryd.prog 62 #[.pointer (some ⟨p, 0, none⟩)] w fun e w' => ∃ u, e = .returned u ∧ Got w.heap.size w w' u l := by
  obtain ⟨v, a, b, c⟩ := h.ex
  exact Bytes_any w0.heap.size p v l w a b hl
theorem Got.fresh {B : Nat} {w w' : World} {v : Value} {l : List UInt8} (h : Got B w w' v l) (hl : 0 < l.length) : Fresh B w w' v l := by
  obtain ⟨g, cap, rfl, h1, h2, h3⟩ := h.addr hl
  exact ⟨g, cap, rfl, h1, h2, h.1, h.2⟩
theorem Fresh.base {B : Nat} {w0 w w' : World} {v : Value} {l : List UInt8} (h : Fresh B w w' v l) (hf : Fr [] w0 w) (hB : w0.heap.size ≤ B) : Fresh w0.heap.size w0 w' v l := by
  obtain ⟨g, cap, rfl, h1, h2, h3, h4⟩ := h
  exact ⟨g, cap, rfl, by omega, h2, own_base h3 hB, hf.trans h4⟩
theorem Fresh.late {B : Nat} {w w' w'' : World} {v : Value} {l : List UInt8} (h : Fresh B w w' v l) (hf : Fr [] w' w'') : Fresh B w w'' v l := by
  obtain ⟨g, cap, rfl, h1, h2, h3, h4⟩ := h
  exact ⟨g, cap, rfl, h1, Nat.lt_of_lt_of_le h2 hf.size, own_fr h3 hf (by simp), h4.trans hf⟩

/-- a Reader over these bytes stands at this place, without an error -/
structure Rdr (w : World) (p g : Nat) (l : List UInt8) (q : Nat) : Prop where
  st : RdSt w l p g q 0
  by_ : Bytes w (some ⟨g, 0, none⟩) l
  ne : g ≠ p
theorem Rdr.fr {S : List Nat} {w w' : World} {p g : Nat} {l : List UInt8} {q : Nat} (h : Rdr w p g l q) (hf : Fr S w w') (hp : p ∉ S) (hg : g ∉ S) : Rdr w' p g l q :=
  ⟨h.st.fr hf hp, h.by_.fr hf (.inr fun ad e => by cases e; exact hg), h.ne⟩
theorem Rdr.lt {w : World} {p g : Nat} {l : List UInt8} {q : Nat} (h : Rdr w p g l q) : p < w.heap.size := by
  obtain ⟨⟨_, _, _, hr, _⟩, _⟩ := h.st
  exact (Array.getElem?_eq_some_iff.1 hr).1
theorem NewR (a : Option Addr) (cap : Nat) (l : List UInt8) (w : World) (hl : l.length ≤ 140737488351300) (h0 : 0 < l.length) (hb : Bytes w a l) :
    Calls Tryd.prog 69 #[.slice a l.length cap] w fun e w' => ∃ p g, e = .returned (.pointer (some ⟨p, 0, none⟩)) ∧ Rdr w' p g l 0 ∧ w.heap.size ≤ g ∧ g < p ∧ Fr [] w w' := by
  obtain ⟨b, off, rfl, _⟩ := hb.at h0
  refine (NewReader_any ⟨b, off, none⟩ cap l w hl hb).mono ?_
  rintro e w' ⟨p, g, c, rfl, hrd, hc, hby, hg, hgp, hlt, hf⟩
  exact ⟨p, g, rfl, ⟨⟨⟨some ⟨g, 0, none⟩, l.length, c, hrd, fun _ => ⟨0, rfl, by omega, hc, fun _ => rfl⟩, fun h => absurd rfl h⟩, by omega⟩, hby, by omega⟩, hg, hgp, hf⟩
theorem NumR (w : World) (p g : Nat) (l : List UInt8) (q wd : Nat) (h : Rdr w p g l q) (hl : l.length ≤ 140737488351300) (hw : Wd wd) (hwd : wd ≤ 4) (hq : q + wd ≤ l.length) :
    Calls Tryd.prog 71 #[.pointer (some ⟨p, 0, none⟩), .int .i64 wd] w fun x w' => x = .returned (.int .u64 (nm l q wd)) ∧ Rdr w' p g l (q + wd) ∧ Fr [p] w w' :=
  (RdNum_at l p g q wd w h.st hl h.by_ h.ne hw hwd hq).mono fun x w' ⟨hx, h2, h3⟩ => ⟨hx, ⟨h2, h.by_.fr h3 (.inr fun ad e => by cases e; simp [h.ne]), h.ne⟩, h3⟩
theorem RawR (w : World) (p g : Nat) (l : List UInt8) (q n : Nat) (h : Rdr w p g l q) (hl : l.length ≤ 140737488351300) (hq : q + n ≤ l.length) :
    Calls Tryd.prog 70 #[.pointer (some ⟨p, 0, none⟩), .int .i64 n] w fun x w' => ∃ v, x = .returned v ∧ w'.ownsRow w.heap.size 5 1 v ((l.drop q).take n).length (((l.drop q).take n).map B8) ∧ Rdr w' p g l (q + n) ∧ Fr [p] w w' :=
  (RdRaw_at l p g q n w h.st hl h.by_ h.ne hq).mono fun x w' ⟨v, hx, ho, h2, h3⟩ => ⟨v, hx, ho, ⟨h2, h.by_.fr h3 (.inr fun ad e => by cases e; simp [h.ne]), h.ne⟩, h3⟩
/-! a struct that is handed back -/
theorem heap_setCells (b T : Nat) : ∀ (vs : List Value) (o : Nat) (pre mid post : List Value) (w : World), w.heap[b]? = some (.cells (pre ++ mid ++ post).toArray T) → pre.length = o → mid.length = vs.length → (w.setCells b o vs).heap[b]? = some (.cells (pre ++ vs ++ post).toArray T)
  | [], o, pre, mid, post, w, h, _, hm => by
    have : mid = [] := List.eq_nil_of_length_eq_zero hm
    subst this
    exact h
  | v :: vs, o, pre, mid, post, w, h, hp, hm => by
    match mid, hm with
    | m :: mid, hm =>
      have h1 : (w.setCell ⟨b, o, none⟩ v).heap[b]? = some (.cells ((pre ++ [v]) ++ mid ++ post).toArray T) := by
        rw [heap_setCell_same w b o _ _ _ h]
        subst hp
        simp
      have h2 := heap_setCells b T vs (o + 1) (pre ++ [v]) mid post _ h1 (by simp [hp]) (by simpa using hm)
      show ((w.setCell ⟨b, o, none⟩ v).setCells b (o + 1) vs).heap[b]? = _
      rw [h2]
      simp
theorem obj_setCells {w : World} {b T : Nat} {old : Array Value} (h : w.heap[b]? = some (.cells old T)) (vs : List Value) (hl : old.size = vs.length) : (w.setCells b 0 vs).heap[b]? = some (.cells vs.toArray T) := by
  have := heap_setCells b T vs 0 [] old.toList [] w (by simpa using h) rfl (by simpa using hl)
  simpa using this
theorem Fr.setCells {S : List Nat} {a : World} {b : Nat} (hb : b < a.heap.size → b ∈ S) : ∀ (vs : List Value) (o : Nat) (w : World), Fr S a w → Fr S a (w.setCells b o vs)
  | [], _, _, h => h
  | v :: vs, o, w, h => Fr.setCells hb vs (o + 1) _ (h.setCell hb v)
theorem results_row {P : Program} {fn : Func} {p u : Tmp} {ty : TypeId} (h : fn.results = #[.cell p ty, .tmp u]) (tmps : Array Value) (w : World) (g T : Nat) (cs : Array Value) (d : TypeDesc) (e : Value)
    (hp : tmps.getD p undef = .pointer (some ⟨g, 0, none⟩)) (he : tmps.getD u undef = e) (hg : w.heap[g]? = some (.cells cs T))
    (hu : P.underlying ty = some d) (hd : (match d with | .struct _ | .array _ _ => true | _ => false) = true) (hi : (P.info? ty).map (·.size) = some cs.size) :
    (results fn tmps).run P w = .ok (.tuple #[.agg cs, e]) w := by
  rw [results_cell_tmp h, hp, he]
  simp [asAddr, run_loadVar_row w g T ty cs (0, 0) d hg hu hd hi]
end Go.Proofs.YtlckhfjkdahfpaaDoor
