/- Record files: RecfileNames. -/
import Derived.Test.YtibhbfmljibeaaaDoorRfL
namespace Go.Proofs.YtibhbfmljibeaaaDoor
open Go.RowKit
attribute [local go_sem ↓] Go.wp_at_zero Go.wp_at_succ
theorem recfileNames_walk (w : World) (hn : Nib w) : Calls Tryd.prog 3 #[] w fun e w' => e = .returned (.bool true) ∧ Fr [] w w' := by
  go_enter Tryd.func3, Tryd.ntmps3
  go_wp2_with fail
  refine (speaks09 w hn).mono ?_
  rintro e w' ⟨rfl, hf⟩
  have HF := Lib.hid hf
  clear hf hn
  go_wp2
  go_ret
  exact ⟨rfl, HF.out⟩
end Go.Proofs.YtibhbfmljibeaaaDoor
