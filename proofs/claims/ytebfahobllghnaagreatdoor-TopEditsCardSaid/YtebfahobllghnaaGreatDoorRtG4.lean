/-
  TopEdits: RtG4.
-/
import Derived.Test.YtebfahobllghnaaGreatDoorEdC8
set_option linter.unusedSimpArgs false
set_option linter.unusedVariables false
namespace Go.Proofs.YtebfahobllghnaaGreatDoor
namespace X
open Go.RowKit B
set_option maxRecDepth 1000000
theorem fdx8y0 : fdK 8 0 = true := by kernel_rfl
theorem fdx8y1 : fdK 8 1 = true := by kernel_rfl
theorem fdx8y2 : fdK 8 2 = true := by kernel_rfl
theorem fdx8y3 : fdK 8 3 = true := by kernel_rfl
theorem fdx8y4 : fdK 8 4 = true := by kernel_rfl
theorem fdx8y5 : fdK 8 5 = true := by kernel_rfl
theorem fdx8y6 : fdK 8 6 = true := by kernel_rfl
theorem fdx8y7 : fdK 8 7 = true := by kernel_rfl
theorem fdx8y8 : fdK 8 8 = true := by kernel_rfl
theorem fd1x8y0 : fd1K 8 0 = true := by kernel_rfl
theorem fd1x8y1 : fd1K 8 1 = true := by kernel_rfl
theorem fd1x8y2 : fd1K 8 2 = true := by kernel_rfl
theorem fd1x8y3 : fd1K 8 3 = true := by kernel_rfl
theorem fd1x8y4 : fd1K 8 4 = true := by kernel_rfl
theorem fd1x8y5 : fd1K 8 5 = true := by kernel_rfl
theorem fd1x8y6 : fd1K 8 6 = true := by kernel_rfl
theorem fd1x8y7 : fd1K 8 7 = true := by kernel_rfl
end X
end Go.Proofs.YtebfahobllghnaaGreatDoor
