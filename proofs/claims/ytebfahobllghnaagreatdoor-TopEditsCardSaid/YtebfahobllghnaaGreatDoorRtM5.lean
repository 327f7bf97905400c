/-
  TopEdits: RtM5.
-/
import Derived.Test.YtebfahobllghnaaGreatDoorEdC8
set_option linter.unusedSimpArgs false
set_option linter.unusedVariables false
namespace Go.Proofs.YtebfahobllghnaaGreatDoor
namespace X
open Go.RowKit B
set_option maxRecDepth 1000000
theorem mx7y0_t : mainT 7 0 true 0 = true := by kernel_rfl
theorem mx7y1_t : mainT 7 1 true 0 = true := by kernel_rfl
theorem mx7y2_t : mainT 7 2 true 0 = true := by kernel_rfl
theorem mx7y3_t : mainT 7 3 true 0 = true := by kernel_rfl
theorem mx7y4_t : mainT 7 4 true 0 = true := by kernel_rfl
theorem mx7y5_t : mainT 7 5 true 0 = true := by kernel_rfl
theorem mx7y6_t : mainT 7 6 true 0 = true := by kernel_rfl
theorem mx7y7_t : mainT 7 7 true 0 = true := by kernel_rfl
end X
end Go.Proofs.YtebfahobllghnaaGreatDoor
