/-
  TopEdits: RtG4.
-/
import Derived.Test.YtebfahobllghnaaGreatDoorEdC8
set_option linter.unusedSimpArgs false
set_option linter.unusedVariables false
namespace Go.Proofs.YtebfahobllghnaaGreatDoor
namespace X
open Go.RowKit B
set_option maxRecDepth 1000000
theorem fd_8_0 : fdK 8 0 = true := by kernel_rfl
theorem fd_8_1 : fdK 8 1 = true := by kernel_rfl
theorem fd_8_2 : fdK 8 2 = true := by kernel_rfl
theorem fd_8_3 : fdK 8 3 = true := by kernel_rfl
theorem fd_8_4 : fdK 8 4 = true := by kernel_rfl
theorem fd_8_5 : fdK 8 5 = true := by kernel_rfl
theorem fd_8_6 : fdK 8 6 = true := by kernel_rfl
theorem fd_8_7 : fdK 8 7 = true := by kernel_rfl
theorem fd_8_8 : fdK 8 8 = true := by kernel_rfl
theorem fd1_8_0 : fd1K 8 0 = true := by kernel_rfl
theorem fd1_8_1 : fd1K 8 1 = true := by kernel_rfl
theorem fd1_8_2 : fd1K 8 2 = true := by kernel_rfl
theorem fd1_8_3 : fd1K 8 3 = true := by kernel_rfl
theorem fd1_8_4 : fd1K 8 4 = true := by kernel_rfl
theorem fd1_8_5 : fd1K 8 5 = true := by kernel_rfl
theorem fd1_8_6 : fd1K 8 6 = true := by kernel_rfl
theorem fd1_8_7 : fd1K 8 7 = true := by kernel_rfl
end X
end Go.Proofs.YtebfahobllghnaaGreatDoor
