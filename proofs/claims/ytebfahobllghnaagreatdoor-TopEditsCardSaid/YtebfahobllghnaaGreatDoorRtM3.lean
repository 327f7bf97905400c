/-
  TopEdits: RtM3.
-/
import Derived.Test.YtebfahobllghnaaGreatDoorEdC8
set_option linter.unusedSimpArgs false
set_option linter.unusedVariables false
namespace Go.Proofs.YtebfahobllghnaaGreatDoor
namespace X
open Go.RowKit B
set_option maxRecDepth 1000000
theorem mx6y0_f : mainT 6 0 false 0 = true := by kernel_rfl
theorem mx6y1_f : mainT 6 1 false 0 = true := by kernel_rfl
theorem mx6y2_f : mainT 6 2 false 0 = true := by kernel_rfl
theorem mx6y3_f : mainT 6 3 false 0 = true := by kernel_rfl
theorem mx6y4_f : mainT 6 4 false 0 = true := by kernel_rfl
theorem mx6y5_f : mainT 6 5 false 0 = true := by kernel_rfl
theorem mx6y6_f : mainT 6 6 false 0 = true := by kernel_rfl
theorem mx6y0_t : mainT 6 0 true 0 = true := by kernel_rfl
theorem mx6y1_t : mainT 6 1 true 0 = true := by kernel_rfl
theorem mx6y2_t : mainT 6 2 true 0 = true := by kernel_rfl
theorem mx6y3_t : mainT 6 3 true 0 = true := by kernel_rfl
theorem mx6y4_t : mainT 6 4 true 0 = true := by kernel_rfl
theorem mx6y5_t : mainT 6 5 true 0 = true := by kernel_rfl
theorem mx6y6_t : mainT 6 6 true 0 = true := by kernel_rfl
end X
end Go.Proofs.YtebfahobllghnaaGreatDoor
