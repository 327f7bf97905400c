/-
  TopEdits: RtG2.
-/
import Derived.Test.YtebfahobllghnaaGreatDoorEdC8
set_option linter.unusedSimpArgs false
set_option linter.unusedVariables false
namespace Go.Proofs.YtebfahobllghnaaGreatDoor
namespace X
open Go.RowKit B
set_option maxRecDepth 1000000
theorem fdx6y0 : fdK 6 0 = true := by kernel_rfl
theorem fdx6y1 : fdK 6 1 = true := by kernel_rfl
theorem fdx6y2 : fdK 6 2 = true := by kernel_rfl
theorem fdx6y3 : fdK 6 3 = true := by kernel_rfl
theorem fdx6y4 : fdK 6 4 = true := by kernel_rfl
theorem fdx6y5 : fdK 6 5 = true := by kernel_rfl
theorem fdx6y6 : fdK 6 6 = true := by kernel_rfl
theorem fd1x6y0 : fd1K 6 0 = true := by kernel_rfl
theorem fd1x6y1 : fd1K 6 1 = true := by kernel_rfl
theorem fd1x6y2 : fd1K 6 2 = true := by kernel_rfl
theorem fd1x6y3 : fd1K 6 3 = true := by kernel_rfl
theorem fd1x6y4 : fd1K 6 4 = true := by kernel_rfl
theorem fd1x6y5 : fd1K 6 5 = true := by kernel_rfl
end X
end Go.Proofs.YtebfahobllghnaaGreatDoor
