/-
  TopEdits: RtM7.
-/
import Derived.Test.YtebfahobllghnaaGreatDoorEdC8
set_option linter.unusedSimpArgs false
set_option linter.unusedVariables false
namespace Go.Proofs.YtebfahobllghnaaGreatDoor
namespace X
open Go.RowKit B
set_option maxRecDepth 1000000
theorem mx8y0_t : mainT 8 0 true 0 = true := by kernel_rfl
theorem mx8y1_t : mainT 8 1 true 0 = true := by kernel_rfl
theorem mx8y2_t : mainT 8 2 true 0 = true := by kernel_rfl
theorem mx8y3_t : mainT 8 3 true 0 = true := by kernel_rfl
theorem mx8y4_t : mainT 8 4 true 0 = true := by kernel_rfl
theorem mx8y5_t : mainT 8 5 true 0 = true := by kernel_rfl
theorem mx8y6_t : mainT 8 6 true 0 = true := by kernel_rfl
theorem mx8y7_t : mainT 8 7 true 0 = true := by kernel_rfl
theorem mx8y8_t : mainT 8 8 true 0 = true := by kernel_rfl
end X
end Go.Proofs.YtebfahobllghnaaGreatDoor
