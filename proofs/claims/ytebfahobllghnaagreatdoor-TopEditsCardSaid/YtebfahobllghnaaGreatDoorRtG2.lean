/-
  TopEdits: RtG2.
-/
import Derived.Test.YtebfahobllghnaaGreatDoorEdC8
set_option linter.unusedSimpArgs false
set_option linter.unusedVariables false
namespace Go.Proofs.YtebfahobllghnaaGreatDoor
namespace X
open Go.RowKit B
set_option maxRecDepth 1000000
theorem fd_6_0 : fdK 6 0 = true := by kernel_rfl
theorem fd_6_1 : fdK 6 1 = true := by kernel_rfl
theorem fd_6_2 : fdK 6 2 = true := by kernel_rfl
theorem fd_6_3 : fdK 6 3 = true := by kernel_rfl
theorem fd_6_4 : fdK 6 4 = true := by kernel_rfl
theorem fd_6_5 : fdK 6 5 = true := by kernel_rfl
theorem fd_6_6 : fdK 6 6 = true := by kernel_rfl
theorem fd1_6_0 : fd1K 6 0 = true := by kernel_rfl
theorem fd1_6_1 : fd1K 6 1 = true := by kernel_rfl
theorem fd1_6_2 : fd1K 6 2 = true := by kernel_rfl
theorem fd1_6_3 : fd1K 6 3 = true := by kernel_rfl
theorem fd1_6_4 : fd1K 6 4 = true := by kernel_rfl
theorem fd1_6_5 : fd1K 6 5 = true := by kernel_rfl
end X
end Go.Proofs.YtebfahobllghnaaGreatDoor
