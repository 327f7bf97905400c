/-
  TopEdits: RtM1.
-/
import Derived.Test.YtebfahobllghnaaGreatDoorEdC8
set_option linter.unusedSimpArgs false
set_option linter.unusedVariables false
namespace Go.Proofs.YtebfahobllghnaaGreatDoor
namespace X
open Go.RowKit B
set_option maxRecDepth 1000000
theorem mx4y0_f : mainT 4 0 false 0 = true := by kernel_rfl
theorem mx4y1_f : mainT 4 1 false 0 = true := by kernel_rfl
theorem mx4y2_f : mainT 4 2 false 0 = true := by kernel_rfl
theorem mx4y3_f : mainT 4 3 false 0 = true := by kernel_rfl
theorem mx4y4_f : mainT 4 4 false 0 = true := by kernel_rfl
theorem mx4y0_t : mainT 4 0 true 0 = true := by kernel_rfl
theorem mx4y1_t : mainT 4 1 true 0 = true := by kernel_rfl
theorem mx4y2_t : mainT 4 2 true 0 = true := by kernel_rfl
theorem mx4y3_t : mainT 4 3 true 0 = true := by kernel_rfl
theorem mx4y4_t : mainT 4 4 true 0 = true := by kernel_rfl
end X
end Go.Proofs.YtebfahobllghnaaGreatDoor
