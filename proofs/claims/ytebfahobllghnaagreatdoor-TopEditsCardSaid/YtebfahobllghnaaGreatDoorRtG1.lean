/-
  TopEdits: RtG1.
-/
import Derived.Test.YtebfahobllghnaaGreatDoorEdC8
set_option linter.unusedSimpArgs false
set_option linter.unusedVariables false
namespace Go.Proofs.YtebfahobllghnaaGreatDoor
namespace X
open Go.RowKit B
set_option maxRecDepth 1000000
theorem fdx5y0 : fdK 5 0 = true := by kernel_rfl
theorem fdx5y1 : fdK 5 1 = true := by kernel_rfl
theorem fdx5y2 : fdK 5 2 = true := by kernel_rfl
theorem fdx5y3 : fdK 5 3 = true := by kernel_rfl
theorem fdx5y4 : fdK 5 4 = true := by kernel_rfl
theorem fdx5y5 : fdK 5 5 = true := by kernel_rfl
theorem fd1x5y0 : fd1K 5 0 = true := by kernel_rfl
theorem fd1x5y1 : fd1K 5 1 = true := by kernel_rfl
theorem fd1x5y2 : fd1K 5 2 = true := by kernel_rfl
theorem fd1x5y3 : fd1K 5 3 = true := by kernel_rfl
theorem fd1x5y4 : fd1K 5 4 = true := by kernel_rfl
end X
end Go.Proofs.YtebfahobllghnaaGreatDoor
