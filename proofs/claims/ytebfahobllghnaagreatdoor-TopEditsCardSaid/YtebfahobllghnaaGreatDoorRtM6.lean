/-
  TopEdits: RtM6.
-/
import Derived.Test.YtebfahobllghnaaGreatDoorEdC8
set_option linter.unusedSimpArgs false
set_option linter.unusedVariables false
namespace Go.Proofs.YtebfahobllghnaaGreatDoor
namespace X
open Go.RowKit B
set_option maxRecDepth 1000000
theorem mx8y0_f : mainT 8 0 false 0 = true := by kernel_rfl
theorem mx8y1_f : mainT 8 1 false 0 = true := by kernel_rfl
theorem mx8y2_f : mainT 8 2 false 0 = true := by kernel_rfl
theorem mx8y3_f : mainT 8 3 false 0 = true := by kernel_rfl
theorem mx8y4_f : mainT 8 4 false 0 = true := by kernel_rfl
theorem mx8y5_f : mainT 8 5 false 0 = true := by kernel_rfl
theorem mx8y6_f : mainT 8 6 false 0 = true := by kernel_rfl
theorem mx8y7_f : mainT 8 7 false 0 = true := by kernel_rfl
theorem mx8y8_f : mainT 8 8 false 0 = true := by kernel_rfl
end X
end Go.Proofs.YtebfahobllghnaaGreatDoor
