/-
  TopEdits: RtG0.
-/
import Derived.Test.YtebfahobllghnaaGreatDoorEdC8
set_option linter.unusedSimpArgs false
set_option linter.unusedVariables false
namespace Go.Proofs.YtebfahobllghnaaGreatDoor
namespace X
open Go.RowKit B
set_option maxRecDepth 1000000
theorem fd_0_0 : fdK 0 0 = true := by kernel_rfl
theorem fd_1_0 : fdK 1 0 = true := by kernel_rfl
theorem fd_1_1 : fdK 1 1 = true := by kernel_rfl
theorem fd1_1_0 : fd1K 1 0 = true := by kernel_rfl
theorem fd_2_0 : fdK 2 0 = true := by kernel_rfl
theorem fd_2_1 : fdK 2 1 = true := by kernel_rfl
theorem fd_2_2 : fdK 2 2 = true := by kernel_rfl
theorem fd1_2_0 : fd1K 2 0 = true := by kernel_rfl
theorem fd1_2_1 : fd1K 2 1 = true := by kernel_rfl
theorem fd_3_0 : fdK 3 0 = true := by kernel_rfl
theorem fd_3_1 : fdK 3 1 = true := by kernel_rfl
theorem fd_3_2 : fdK 3 2 = true := by kernel_rfl
theorem fd_3_3 : fdK 3 3 = true := by kernel_rfl
theorem fd1_3_0 : fd1K 3 0 = true := by kernel_rfl
theorem fd1_3_1 : fd1K 3 1 = true := by kernel_rfl
theorem fd1_3_2 : fd1K 3 2 = true := by kernel_rfl
theorem fd_4_0 : fdK 4 0 = true := by kernel_rfl
theorem fd_4_1 : fdK 4 1 = true := by kernel_rfl
theorem fd_4_2 : fdK 4 2 = true := by kernel_rfl
theorem fd_4_3 : fdK 4 3 = true := by kernel_rfl
theorem fd_4_4 : fdK 4 4 = true := by kernel_rfl
theorem fd1_4_0 : fd1K 4 0 = true := by kernel_rfl
theorem fd1_4_1 : fd1K 4 1 = true := by kernel_rfl
theorem fd1_4_2 : fd1K 4 2 = true := by kernel_rfl
theorem fd1_4_3 : fd1K 4 3 = true := by kernel_rfl
end X
end Go.Proofs.YtebfahobllghnaaGreatDoor
