/-
  TopEdits: RtM2.
-/
import Derived.Test.YtebfahobllghnaaGreatDoorEdC8
set_option linter.unusedSimpArgs false
set_option linter.unusedVariables false
namespace Go.Proofs.YtebfahobllghnaaGreatDoor
namespace X
open Go.RowKit B
set_option maxRecDepth 1000000
theorem mx5y0_f : mainT 5 0 false 0 = true := by kernel_rfl
theorem mx5y1_f : mainT 5 1 false 0 = true := by kernel_rfl
theorem mx5y2_f : mainT 5 2 false 0 = true := by kernel_rfl
theorem mx5y3_f : mainT 5 3 false 0 = true := by kernel_rfl
theorem mx5y4_f : mainT 5 4 false 0 = true := by kernel_rfl
theorem mx5y5_f : mainT 5 5 false 0 = true := by kernel_rfl
theorem mx5y0_t : mainT 5 0 true 0 = true := by kernel_rfl
theorem mx5y1_t : mainT 5 1 true 0 = true := by kernel_rfl
theorem mx5y2_t : mainT 5 2 true 0 = true := by kernel_rfl
theorem mx5y3_t : mainT 5 3 true 0 = true := by kernel_rfl
theorem mx5y4_t : mainT 5 4 true 0 = true := by kernel_rfl
theorem mx5y5_t : mainT 5 5 true 0 = true := by kernel_rfl
end X
end Go.Proofs.YtebfahobllghnaaGreatDoor
