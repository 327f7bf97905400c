/-
  TopEdits: RtM0.
-/
import Derived.Test.YtebfahobllghnaaGreatDoorEdC8
set_option linter.unusedSimpArgs false
set_option linter.unusedVariables false
namespace Go.Proofs.YtebfahobllghnaaGreatDoor
namespace X
open Go.RowKit B
set_option maxRecDepth 1000000
theorem mx0y0_f : mainT 0 0 false 0 = true := by kernel_rfl
theorem mx0y0_t : mainT 0 0 true 0 = true := by kernel_rfl
theorem m0g1_f : mainT 0 0 false 1 = true := by kernel_rfl
theorem m0g1_t : mainT 0 0 true 1 = true := by kernel_rfl
theorem m0g2_f : mainT 0 0 false 2 = true := by kernel_rfl
theorem m0g2_t : mainT 0 0 true 2 = true := by kernel_rfl
theorem m0g3_f : mainT 0 0 false 3 = true := by kernel_rfl
theorem m0g3_t : mainT 0 0 true 3 = true := by kernel_rfl
theorem mx1y0_f : mainT 1 0 false 0 = true := by kernel_rfl
theorem mx1y1_f : mainT 1 1 false 0 = true := by kernel_rfl
theorem mx1y0_t : mainT 1 0 true 0 = true := by kernel_rfl
theorem mx1y1_t : mainT 1 1 true 0 = true := by kernel_rfl
theorem mx2y0_f : mainT 2 0 false 0 = true := by kernel_rfl
theorem mx2y1_f : mainT 2 1 false 0 = true := by kernel_rfl
theorem mx2y2_f : mainT 2 2 false 0 = true := by kernel_rfl
theorem mx2y0_t : mainT 2 0 true 0 = true := by kernel_rfl
theorem mx2y1_t : mainT 2 1 true 0 = true := by kernel_rfl
theorem mx2y2_t : mainT 2 2 true 0 = true := by kernel_rfl
theorem mx3y0_f : mainT 3 0 false 0 = true := by kernel_rfl
theorem mx3y1_f : mainT 3 1 false 0 = true := by kernel_rfl
theorem mx3y2_f : mainT 3 2 false 0 = true := by kernel_rfl
theorem mx3y3_f : mainT 3 3 false 0 = true := by kernel_rfl
theorem mx3y0_t : mainT 3 0 true 0 = true := by kernel_rfl
theorem mx3y1_t : mainT 3 1 true 0 = true := by kernel_rfl
theorem mx3y2_t : mainT 3 2 true 0 = true := by kernel_rfl
theorem mx3y3_t : mainT 3 3 true 0 = true := by kernel_rfl
end X
end Go.Proofs.YtebfahobllghnaaGreatDoor
