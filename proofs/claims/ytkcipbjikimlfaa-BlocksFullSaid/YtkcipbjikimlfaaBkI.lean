/- Blocks: Check: what its loops hold, in memory. -/
import Derived.Test.YtkcipbjikimlfaaBkH
namespace Go.Proofs.Ytkcipbjikimlfaa
open Go.RowKit Go.Maps

structure ChP where
  l : Nat
  D : Nat
  RZ : Nat
  X1 : Nat
  X3 : Nat
  X4 : Nat
  X5 : Nat
  Bn : Nat
  g3 : Nat
  g5 : Nat
def ChP.fix (P : ChP) : List Nat := [P.l, P.D, P.RZ, P.X1, P.X3, P.X4, P.X5, P.Bn, P.g3, P.g5]
structure ChS (P : ChP) (w : World) (B : Nat) (bs : List Nat) (p n : Nat) (s : RFS) (o : Obj) (e : Int) (f3 f5 : Nat → Int) (v4 : Value) (L : List Nat) (A : World) : Prop where
  lp : A.heap[P.l]? = some o
  df : A.heap[P.D]? = some (.deferred (some []))
  rz : A.heap[P.RZ]? = some (.cells #[.int .i64 e] 24)
  x1 : A.heap[P.X1]? = some (.cells #[.pointer (some ⟨p, 0, none⟩)] 23)
  x3 : A.heap[P.X3]? = some (.cells #[.slice (some ⟨P.g3, 0, none⟩) n n] 40)
  x4 : A.heap[P.X4]? = some (.cells #[v4] 40)
  x5 : A.heap[P.X5]? = some (.cells #[.slice (some ⟨P.g5, 0, none⟩) n n] 40)
  bn : A.heap[P.Bn]? = some (.cells #[.pointer (some ⟨p, 0, none⟩)] 23)
  a3 : Arr A P.g3 n f3
  a5 : Arr A P.g5 n f5
  st : A.ownsRow w.heap.size 3 1 v4 L.length (L.map fun (k : Nat) => Value.int .i64 k)
  so : ∀ i ∈ P.fix, v4.ownBlock ≠ some i
  rf : RF B bs A p s
  fr : Fr [] w A
  nd : P.fix.Nodup
  new : ∀ i ∈ P.fix, w.heap.size ≤ i
  old : ∀ i ∈ bs, i < w.heap.size
theorem ChS.lt {P : ChP} {w : World} {B : Nat} {bs : List Nat} {p n : Nat} {s : RFS} {o : Obj} {e : Int} {f3 f5 : Nat → Int} {v4 : Value} {L : List Nat} {A : World} (h : ChS P w B bs p n s o e f3 f5 v4 L A) : ∀ i ∈ P.fix, i < A.heap.size := by
  intro i hi
  have key : ∀ {i : Nat} {o : Obj}, A.heap[i]? = some o → i < A.heap.size := fun h => (Array.getElem?_eq_some_iff.1 h).1
  simp only [ChP.fix, List.mem_cons, List.not_mem_nil, or_false] at hi
  rcases hi with rfl | rfl | rfl | rfl | rfl | rfl | rfl | rfl | rfl | rfl
  · exact key h.lp
  · exact key h.df
  · exact key h.rz
  · exact key h.x1
  · exact key h.x3
  · exact key h.x4
  · exact key h.x5
  · exact key h.bn
  · exact h.a3.lt
  · exact h.a5.lt
theorem ChS.step {S : List Nat} {P : ChP} {w : World} {B : Nat} {bs : List Nat} {p n : Nat} {s : RFS} {o : Obj} {e : Int} {f3 f5 : Nat → Int} {v4 : Value} {L : List Nat} {A A' : World} (h : ChS P w B bs p n s o e f3 f5 v4 L A) (hf : Fr S A A') (hS : ∀ i ∈ P.fix, i ∉ S) (hv : ∀ i, v4.ownBlock = some i → i ∉ S) (hb : ∀ i ∈ S, w.heap.size ≤ i) : ChS P w B bs p n s o e f3 f5 v4 L A' :=
  ⟨hf.obj h.lp (hS _ (by simp [ChP.fix])), hf.obj h.df (hS _ (by simp [ChP.fix])), hf.obj h.rz (hS _ (by simp [ChP.fix])), hf.obj h.x1 (hS _ (by simp [ChP.fix])), hf.obj h.x3 (hS _ (by simp [ChP.fix])), hf.obj h.x4 (hS _ (by simp [ChP.fix])), hf.obj h.x5 (hS _ (by simp [ChP.fix])), hf.obj h.bn (hS _ (by simp [ChP.fix])), h.a3.fr hf (hS _ (by simp [ChP.fix])), h.a5.fr hf (hS _ (by simp [ChP.fix])), own_fr h.st hf hv, h.so, h.rf.fr hf (fun i hi hm => by have := h.old i hi; have := hb i hm; omega), h.fr.next hf (fun i hi hlt => by have := hb i hi; omega), h.nd, h.new, h.old⟩
theorem ChS.keep {P : ChP} {w : World} {B : Nat} {bs : List Nat} {p n : Nat} {s : RFS} {o : Obj} {e : Int} {f3 f5 : Nat → Int} {v4 : Value} {L : List Nat} {A A' : World} (h : ChS P w B bs p n s o e f3 f5 v4 L A) (hf : Fr [] A A') : ChS P w B bs p n s o e f3 f5 v4 L A' := h.step hf (by simp) (by simp) (by simp)
theorem ChP.nd {P : ChP} (h : P.fix.Nodup) : (P.D ≠ P.l ∧ P.RZ ≠ P.l ∧ P.X1 ≠ P.l ∧ P.X3 ≠ P.l ∧ P.X4 ≠ P.l ∧ P.X5 ≠ P.l ∧ P.Bn ≠ P.l ∧ P.g3 ≠ P.l ∧ P.g5 ≠ P.l) ∧ (P.l ≠ P.RZ ∧ P.D ≠ P.RZ ∧ P.X1 ≠ P.RZ ∧ P.X3 ≠ P.RZ ∧ P.X4 ≠ P.RZ ∧ P.X5 ≠ P.RZ ∧ P.Bn ≠ P.RZ ∧ P.g3 ≠ P.RZ ∧ P.g5 ≠ P.RZ) ∧ (P.l ≠ P.g3 ∧ P.D ≠ P.g3 ∧ P.RZ ≠ P.g3 ∧ P.X1 ≠ P.g3 ∧ P.X3 ≠ P.g3 ∧ P.X4 ≠ P.g3 ∧ P.X5 ≠ P.g3 ∧ P.Bn ≠ P.g3 ∧ P.g5 ≠ P.g3) ∧ (P.l ≠ P.g5 ∧ P.D ≠ P.g5 ∧ P.RZ ≠ P.g5 ∧ P.X1 ≠ P.g5 ∧ P.X3 ≠ P.g5 ∧ P.X4 ≠ P.g5 ∧ P.X5 ≠ P.g5 ∧ P.Bn ≠ P.g5 ∧ P.g3 ≠ P.g5) ∧ (P.l ≠ P.X4 ∧ P.D ≠ P.X4 ∧ P.RZ ≠ P.X4 ∧ P.X1 ≠ P.X4 ∧ P.X3 ≠ P.X4 ∧ P.X5 ≠ P.X4 ∧ P.Bn ≠ P.X4 ∧ P.g3 ≠ P.X4 ∧ P.g5 ≠ P.X4) := by
  simp only [ChP.fix, List.nodup_cons, List.mem_cons, List.not_mem_nil, or_false, not_or] at h
  obtain ⟨⟨n01, n02, n03, n04, n05, n06, n07, n08, n09⟩, ⟨n12, n13, n14, n15, n16, n17, n18, n19⟩, ⟨n23, n24, n25, n26, n27, n28, n29⟩, ⟨n34, n35, n36, n37, n38, n39⟩, ⟨n45, n46, n47, n48, n49⟩, ⟨n56, n57, n58, n59⟩, ⟨n67, n68, n69⟩, ⟨n78, n79⟩, n89, _⟩ := h
  exact ⟨⟨(Ne.symm n01), (Ne.symm n02), (Ne.symm n03), (Ne.symm n04), (Ne.symm n05), (Ne.symm n06), (Ne.symm n07), (Ne.symm n08), (Ne.symm n09)⟩, ⟨n02, n12, (Ne.symm n23), (Ne.symm n24), (Ne.symm n25), (Ne.symm n26), (Ne.symm n27), (Ne.symm n28), (Ne.symm n29)⟩, ⟨n08, n18, n28, n38, n48, n58, n68, n78, (Ne.symm n89)⟩, ⟨n09, n19, n29, n39, n49, n59, n69, n79, n89⟩, ⟨n05, n15, n25, n35, n45, (Ne.symm n56), (Ne.symm n57), (Ne.symm n58), (Ne.symm n59)⟩⟩
theorem ChS.putL {P : ChP} {w : World} {B : Nat} {bs : List Nat} {p n : Nat} {s : RFS} {o : Obj} {e : Int} {f3 f5 : Nat → Int} {v4 : Value} {L : List Nat} {A : World} (h : ChS P w B bs p n s o e f3 f5 v4 L A) {o' : Obj} : ChS P w B bs p n s o' e f3 f5 v4 L (A.putObj P.l o') := by
  have hf : Fr [P.l] A (A.putObj P.l o') := (Fr.refl _ _).putObj (by simp) _
  obtain ⟨⟨m0, m1, m2, m3, m4, m5, m6, m7, m8⟩, _⟩ := ChP.nd h.nd
  exact ⟨World.putObj_heap_same (Array.getElem?_eq_some_iff.1 h.lp).1, hf.obj h.df (by simpa using m0), hf.obj h.rz (by simpa using m1), hf.obj h.x1 (by simpa using m2), hf.obj h.x3 (by simpa using m3), hf.obj h.x4 (by simpa using m4), hf.obj h.x5 (by simpa using m5), hf.obj h.bn (by simpa using m6), h.a3.fr hf (by simpa using m7), h.a5.fr hf (by simpa using m8), own_fr h.st hf (fun i hi hm => by simp at hm; subst hm; exact h.so _ (by simp [ChP.fix]) hi), h.so, h.rf.fr hf (fun i hi hm => by have := h.old i hi; simp at hm; have := h.new P.l (by simp [ChP.fix]); omega), h.fr.next hf (fun i hi hlt => by simp at hi; have := h.new P.l (by simp [ChP.fix]); omega), h.nd, h.new, h.old⟩
theorem ChS.setE {P : ChP} {w : World} {B : Nat} {bs : List Nat} {p n : Nat} {s : RFS} {o : Obj} {e : Int} {f3 f5 : Nat → Int} {v4 : Value} {L : List Nat} {A : World} (h : ChS P w B bs p n s o e f3 f5 v4 L A) (e' : Int) : ChS P w B bs p n s o e' f3 f5 v4 L (A.setCell ⟨P.RZ, 0, none⟩ (.int .i64 e')) := by
  have hf : Fr [P.RZ] A (A.setCell ⟨P.RZ, 0, none⟩ (.int .i64 e')) := (Fr.refl _ _).setCell (by simp) _
  obtain ⟨_, ⟨m0, m1, m2, m3, m4, m5, m6, m7, m8⟩, _⟩ := ChP.nd h.nd
  exact ⟨hf.obj h.lp (by simpa using m0), hf.obj h.df (by simpa using m1), by rw [heap_setCell_same _ _ 0 _ _ _ h.rz]; rfl, hf.obj h.x1 (by simpa using m2), hf.obj h.x3 (by simpa using m3), hf.obj h.x4 (by simpa using m4), hf.obj h.x5 (by simpa using m5), hf.obj h.bn (by simpa using m6), h.a3.fr hf (by simpa using m7), h.a5.fr hf (by simpa using m8), own_fr h.st hf (fun i hi hm => by simp at hm; subst hm; exact h.so _ (by simp [ChP.fix]) hi), h.so, h.rf.fr hf (fun i hi hm => by have := h.old i hi; simp at hm; have := h.new P.RZ (by simp [ChP.fix]); omega), h.fr.next hf (fun i hi hlt => by simp at hi; have := h.new P.RZ (by simp [ChP.fix]); omega), h.nd, h.new, h.old⟩
theorem ChS.set3 {P : ChP} {w : World} {B : Nat} {bs : List Nat} {p n : Nat} {s : RFS} {o : Obj} {e : Int} {f3 f5 : Nat → Int} {v4 : Value} {L : List Nat} {A : World} (h : ChS P w B bs p n s o e f3 f5 v4 L A) {f3' : Nat → Int} (k : Nat) (x : Int) (hk : f3' k = x) (ho : ∀ j, j < n → j ≠ k → f3' j = f3 j) : ChS P w B bs p n s o e f3' f5 v4 L (A.setCell ⟨P.g3, k, none⟩ (.int .i64 x)) := by
  have hf : Fr [P.g3] A (A.setCell ⟨P.g3, k, none⟩ (.int .i64 x)) := (Fr.refl _ _).setCell (by simp) _
  obtain ⟨_, _, ⟨m0, m1, m2, m3, m4, m5, m6, m7, m8⟩, _⟩ := ChP.nd h.nd
  exact ⟨hf.obj h.lp (by simpa using m0), hf.obj h.df (by simpa using m1), hf.obj h.rz (by simpa using m2), hf.obj h.x1 (by simpa using m3), hf.obj h.x3 (by simpa using m4), hf.obj h.x4 (by simpa using m5), hf.obj h.x5 (by simpa using m6), hf.obj h.bn (by simpa using m7), h.a3.set k x hk ho, h.a5.fr hf (by simpa using m8), own_fr h.st hf (fun i hi hm => by simp at hm; subst hm; exact h.so _ (by simp [ChP.fix]) hi), h.so, h.rf.fr hf (fun i hi hm => by have := h.old i hi; simp at hm; have := h.new P.g3 (by simp [ChP.fix]); omega), h.fr.next hf (fun i hi hlt => by simp at hi; have := h.new P.g3 (by simp [ChP.fix]); omega), h.nd, h.new, h.old⟩
theorem ChS.set5 {P : ChP} {w : World} {B : Nat} {bs : List Nat} {p n : Nat} {s : RFS} {o : Obj} {e : Int} {f3 f5 : Nat → Int} {v4 : Value} {L : List Nat} {A : World} (h : ChS P w B bs p n s o e f3 f5 v4 L A) {f5' : Nat → Int} (k : Nat) (x : Int) (hk : f5' k = x) (ho : ∀ j, j < n → j ≠ k → f5' j = f5 j) : ChS P w B bs p n s o e f3 f5' v4 L (A.setCell ⟨P.g5, k, none⟩ (.int .i64 x)) := by
  have hf : Fr [P.g5] A (A.setCell ⟨P.g5, k, none⟩ (.int .i64 x)) := (Fr.refl _ _).setCell (by simp) _
  obtain ⟨_, _, _, ⟨m0, m1, m2, m3, m4, m5, m6, m7, m8⟩, _⟩ := ChP.nd h.nd
  exact ⟨hf.obj h.lp (by simpa using m0), hf.obj h.df (by simpa using m1), hf.obj h.rz (by simpa using m2), hf.obj h.x1 (by simpa using m3), hf.obj h.x3 (by simpa using m4), hf.obj h.x4 (by simpa using m5), hf.obj h.x5 (by simpa using m6), hf.obj h.bn (by simpa using m7), h.a3.fr hf (by simpa using m8), h.a5.set k x hk ho, own_fr h.st hf (fun i hi hm => by simp at hm; subst hm; exact h.so _ (by simp [ChP.fix]) hi), h.so, h.rf.fr hf (fun i hi hm => by have := h.old i hi; simp at hm; have := h.new P.g5 (by simp [ChP.fix]); omega), h.fr.next hf (fun i hi hlt => by simp at hi; have := h.new P.g5 (by simp [ChP.fix]); omega), h.nd, h.new, h.old⟩
theorem ChS.app4 {P : ChP} {w : World} {B : Nat} {bs : List Nat} {p n : Nat} {s : RFS} {o : Obj} {e : Int} {f3 f5 : Nat → Int} {v4 : Value} {L : List Nat} {A A' : World} {v' : Value} {k : Nat} (h : ChS P w B bs p n s o e f3 f5 v4 L A) (ha : App A A' w.heap.size 3 1 v4 v' L.length 1 (L.map fun (k : Nat) => Value.int .i64 k) [.int .i64 (k : Nat)]) : ChS P w B bs p n s o e f3 f5 v' (L ++ [k]) (A'.setCell ⟨P.X4, 0, none⟩ v') := by
  have hf1 := app_frZ ha
  have hs : ∀ i ∈ P.fix, i ∉ v4.ownBlock.toList := fun i hi hm => h.so i hi (by simpa using hm)
  have hf2 : Fr [P.X4] A' (A'.setCell ⟨P.X4, 0, none⟩ v') := (Fr.refl _ _).setCell (by simp) _
  have hx := hf1.obj h.x4 (hs _ (by simp [ChP.fix]))
  have hso : ∀ i ∈ P.fix, v'.ownBlock ≠ some i := fun i hi e1 => by
    rcases ha.blk with hb | ⟨g, hb, hg⟩
    · exact h.so i hi (hb ▸ e1)
    · rw [hb] at e1
      cases e1
      have := h.lt i hi
      omega
  have hvw : ∀ i, i ∈ v4.ownBlock.toList → w.heap.size ≤ i := fun i hi => (own_lt h.st (g := i) (by simpa using hi)).1
  obtain ⟨_, _, _, _, ⟨m0, m1, m2, m3, m4, m5, m6, m7, m8⟩⟩ := ChP.nd h.nd
  have k2 : ∀ {g : Nat} {ob : Obj}, g ∈ P.fix → g ≠ P.X4 → A.heap[g]? = some ob → (A'.setCell ⟨P.X4, 0, none⟩ v').heap[g]? = some ob := fun hg hne hh => hf2.obj (hf1.obj hh (hs _ hg)) (by simpa using hne)
  refine ⟨k2 (by simp [ChP.fix]) m0 h.lp, k2 (by simp [ChP.fix]) m1 h.df, k2 (by simp [ChP.fix]) m2 h.rz, k2 (by simp [ChP.fix]) m3 h.x1, k2 (by simp [ChP.fix]) m4 h.x3, by rw [heap_setCell_same _ _ 0 _ _ _ hx]; rfl, k2 (by simp [ChP.fix]) m5 h.x5, k2 (by simp [ChP.fix]) m6 h.bn, (h.a3.fr hf1 (hs _ (by simp [ChP.fix]))).fr hf2 (by simpa using m7), (h.a5.fr hf1 (hs _ (by simp [ChP.fix]))).fr hf2 (by simpa using m8), ?_, hso, ?_, ?_, h.nd, h.new, h.old⟩
  · rw [List.length_append, List.map_append]
    exact own_fr ha.own hf2 (fun i hi hm => by simp at hm; subst hm; exact hso _ (by simp [ChP.fix]) hi)
  · exact (h.rf.fr hf1 (fun i hi hm => by have := h.old i hi; have := hvw i hm; omega)).fr hf2 (fun i hi hm => by have := h.old i hi; simp at hm; have := h.new P.X4 (by simp [ChP.fix]); omega)
  · exact (h.fr.next hf1 (fun i hi hlt => by have := hvw i hi; omega)).next hf2 (fun i hi hlt => by simp at hi; have := h.new P.X4 (by simp [ChP.fix]); omega)
end Go.Proofs.Ytkcipbjikimlfaa
