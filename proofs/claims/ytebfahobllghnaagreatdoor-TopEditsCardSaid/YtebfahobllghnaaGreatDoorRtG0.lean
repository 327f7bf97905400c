/-
  TopEdits: RtG0.
-/
import Derived.Test.YtebfahobllghnaaGreatDoorEdC8
set_option linter.unusedSimpArgs false
set_option linter.unusedVariables false
namespace Go.Proofs.YtebfahobllghnaaGreatDoor
namespace X
open Go.RowKit B
set_option maxRecDepth 1000000
theorem fdx0y0 : fdK 0 0 = true := by kernel_rfl
theorem fdx1y0 : fdK 1 0 = true := by kernel_rfl
theorem fdx1y1 : fdK 1 1 = true := by kernel_rfl
theorem fd1x1y0 : fd1K 1 0 = true := by kernel_rfl
theorem fdx2y0 : fdK 2 0 = true := by kernel_rfl
theorem fdx2y1 : fdK 2 1 = true := by kernel_rfl
theorem fdx2y2 : fdK 2 2 = true := by kernel_rfl
theorem fd1x2y0 : fd1K 2 0 = true := by kernel_rfl
theorem fd1x2y1 : fd1K 2 1 = true := by kernel_rfl
theorem fdx3y0 : fdK 3 0 = true := by kernel_rfl
theorem fdx3y1 : fdK 3 1 = true := by kernel_rfl
theorem fdx3y2 : fdK 3 2 = true := by kernel_rfl
theorem fdx3y3 : fdK 3 3 = true := by kernel_rfl
theorem fd1x3y0 : fd1K 3 0 = true := by kernel_rfl
theorem fd1x3y1 : fd1K 3 1 = true := by kernel_rfl
theorem fd1x3y2 : fd1K 3 2 = true := by kernel_rfl
theorem fdx4y0 : fdK 4 0 = true := by kernel_rfl
theorem fdx4y1 : fdK 4 1 = true := by kernel_rfl
theorem fdx4y2 : fdK 4 2 = true := by kernel_rfl
theorem fdx4y3 : fdK 4 3 = true := by kernel_rfl
theorem fdx4y4 : fdK 4 4 = true := by kernel_rfl
theorem fd1x4y0 : fd1K 4 0 = true := by kernel_rfl
theorem fd1x4y1 : fd1K 4 1 = true := by kernel_rfl
theorem fd1x4y2 : fd1K 4 2 = true := by kernel_rfl
theorem fd1x4y3 : fd1K 4 3 = true := by kernel_rfl
end X
end Go.Proofs.YtebfahobllghnaaGreatDoor
