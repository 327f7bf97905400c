/-
  TopEdits: RtG3.
-/
import Derived.Test.YtebfahobllghnaaGreatDoorEdC8
set_option linter.unusedSimpArgs false
set_option linter.unusedVariables false
namespace Go.Proofs.YtebfahobllghnaaGreatDoor
namespace X
open Go.RowKit B
set_option maxRecDepth 1000000
theorem fdx7y0 : fdK 7 0 = true := by kernel_rfl
theorem fdx7y1 : fdK 7 1 = true := by kernel_rfl
theorem fdx7y2 : fdK 7 2 = true := by kernel_rfl
theorem fdx7y3 : fdK 7 3 = true := by kernel_rfl
theorem fdx7y4 : fdK 7 4 = true := by kernel_rfl
theorem fdx7y5 : fdK 7 5 = true := by kernel_rfl
theorem fdx7y6 : fdK 7 6 = true := by kernel_rfl
theorem fdx7y7 : fdK 7 7 = true := by kernel_rfl
theorem fd1x7y0 : fd1K 7 0 = true := by kernel_rfl
theorem fd1x7y1 : fd1K 7 1 = true := by kernel_rfl
theorem fd1x7y2 : fd1K 7 2 = true := by kernel_rfl
theorem fd1x7y3 : fd1K 7 3 = true := by kernel_rfl
theorem fd1x7y4 : fd1K 7 4 = true := by kernel_rfl
theorem fd1x7y5 : fd1K 7 5 = true := by kernel_rfl
theorem fd1x7y6 : fd1K 7 6 = true := by kernel_rfl
end X
end Go.Proofs.YtebfahobllghnaaGreatDoor
