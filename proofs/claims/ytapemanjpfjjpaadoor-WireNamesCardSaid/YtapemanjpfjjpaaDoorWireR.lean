/- The walk of WireNames: the errors' numbers, and the text of one. -/
import Derived.Test.YtapemanjpfjjpaaDoorWireE
namespace Go.Proofs.YtapemanjpfjjpaaDoor
open Go.RowKit

set_option maxRecDepth 100000 in
theorem small_85 (w : World) : Calls Tryd.prog 17 #[.int .i64 85] w fun e w' => e = .returned (.string ⟨#[56, 53]⟩) ∧ w = w' := by
  go_enter Tryd.func17, Tryd.ntmps17
  go_wp2
  go_ret
  exact ⟨rfl, rfl⟩
theorem format_85 (w : World) : Calls Tryd.prog 16 #[.int .i64 85, .int .i64 10] w fun e w' => e = .returned (.string ⟨#[56, 53]⟩) ∧ w = w' := by
  go_enter Tryd.func16, Tryd.ntmps16
  go_wp2_with (go_at_call 17; refine (small_85 _).mono ?_; rintro e w' ⟨rfl, rfl⟩)
  go_ret
  exact ⟨rfl, rfl⟩
theorem itoa_85 (w : World) : Calls Tryd.prog 14 #[.int .i64 85] w fun e w' => e = .returned (.string ⟨#[56, 53]⟩) ∧ w = w' := by
  go_enter Tryd.func14, Tryd.ntmps14
  go_wp2_with (go_at_call 16; refine (format_85 _).mono ?_; rintro e w' ⟨rfl, rfl⟩)
  go_ret
  exact ⟨rfl, rfl⟩
theorem Itoa_85 (w : World) : Calls Tryd.prog 9 #[.int .i64 85] w fun e w' => e = .returned (.string ⟨#[56, 53]⟩) ∧ w = w' := by
  go_enter Tryd.func9, Tryd.ntmps9
  go_wp2_with (go_at_call 14; refine (itoa_85 _).mono ?_; rintro e w' ⟨rfl, rfl⟩)
  go_ret
  exact ⟨rfl, rfl⟩
theorem Error_85 (w : World) : Calls Tryd.prog 5 #[.int .i64 85] w fun e w' => e = .returned (.string ⟨#[101, 114, 114, 111, 114, 32, 56, 53]⟩) ∧ w = w' := by
  go_enter Tryd.func5, Tryd.ntmps5
  go_wp2_with (go_at_call 9; refine (Itoa_85 _).mono ?_; rintro e w' ⟨rfl, rfl⟩)
  go_ret
  exact ⟨rfl, rfl⟩
theorem wireNames_walk (w : World) : Calls Tryd.prog 3 #[] w fun e w' => e = .returned (.bool true) ∧ Fr [] w w' := by
  go_enter Tryd.func3, Tryd.ntmps3
  go_wp2_with fail
  refine (speaks_wire w).mono ?_
  rintro e w1 ⟨rfl, hf1⟩
  have HF1 := Lib.hid hf1
  clear hf1
  go_wp2_with (go_at_call 5; refine (Error_85 _).mono ?_; rintro e w' ⟨rfl, rfl⟩)
  go_ret
  exact ⟨rfl, HF1.out⟩
end Go.Proofs.YtapemanjpfjjpaaDoor
