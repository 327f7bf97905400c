/-
  TopEdits: RtG1.
-/
import Derived.Test.YtebfahobllghnaaGreatDoorEdC8
set_option linter.unusedSimpArgs false
set_option linter.unusedVariables false
namespace Go.Proofs.YtebfahobllghnaaGreatDoor
namespace X
open Go.RowKit B
set_option maxRecDepth 1000000
theorem fd_5_0 : fdK 5 0 = true := by kernel_rfl
theorem fd_5_1 : fdK 5 1 = true := by kernel_rfl
theorem fd_5_2 : fdK 5 2 = true := by kernel_rfl
theorem fd_5_3 : fdK 5 3 = true := by kernel_rfl
theorem fd_5_4 : fdK 5 4 = true := by kernel_rfl
theorem fd_5_5 : fdK 5 5 = true := by kernel_rfl
theorem fd1_5_0 : fd1K 5 0 = true := by kernel_rfl
theorem fd1_5_1 : fd1K 5 1 = true := by kernel_rfl
theorem fd1_5_2 : fd1K 5 2 = true := by kernel_rfl
theorem fd1_5_3 : fd1K 5 3 = true := by kernel_rfl
theorem fd1_5_4 : fd1K 5 4 = true := by kernel_rfl
end X
end Go.Proofs.YtebfahobllghnaaGreatDoor
