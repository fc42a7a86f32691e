/- The walks of the document's PutNode, and of the copies and comparison of nodes. -/
import Derived.Test.YtbhmfbhfofgfaaaRecS
namespace Go.Proofs.Ytbhmfbhfofgfaaa
open Go.RowKit
attribute [local go_sem ↓] Go.wp_at_zero Go.wp_at_succ
theorem own_lit1 (w : World) (x : UInt8) {v : Value} (hv : v = B8 x) : (w.alloc (.cells #[v] 5)).ownsRow w.heap.size 5 1 (.slice (some ⟨w.heap.size, 0, none⟩) 1 1) [x].length ([x].map B8) := by
  subst hv
  exact ⟨by simp, .inr ⟨w.heap.size, 1, _, rfl, Nat.le_refl _, heap_alloc_new w _, Nat.le_refl _, by unfold maxLen; omega, rfl, rfl⟩⟩
end Go.Proofs.Ytbhmfbhfofgfaaa
