/- Frames: the walks of FrameNames and FramePacks. -/
import Derived.Test.YtkgfdcagninphaaDoorFrK
namespace Go.Proofs.YtkgfdcagninphaaDoor
open Go.RowKit
attribute [local go_sem ↓] Go.wp_at_zero Go.wp_at_succ
theorem frameNames_walk (w : World) (hn : Nib w) : Calls Tryd.prog 3 #[] w fun e w' => e = .returned (.bool true) ∧ Fr [] w w' := by
  go_enter Tryd.func3, Tryd.ntmps3
  go_wp2_with fail
  refine (speaks19 w hn).mono ?_
  rintro e w' ⟨rfl, hf⟩
  have HF := Lib.hid hf
  clear hf hn
  go_wp2
  go_ret
  exact ⟨rfl, HF.out⟩
end Go.Proofs.YtkgfdcagninphaaDoor
