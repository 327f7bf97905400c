/-
  TopEdits: RtG3.
-/
import Derived.Test.YtebfahobllghnaaGreatDoorEdC8
set_option linter.unusedSimpArgs false
set_option linter.unusedVariables false
namespace Go.Proofs.YtebfahobllghnaaGreatDoor
namespace X
open Go.RowKit B
set_option maxRecDepth 1000000
theorem fd_7_0 : fdK 7 0 = true := by kernel_rfl
theorem fd_7_1 : fdK 7 1 = true := by kernel_rfl
theorem fd_7_2 : fdK 7 2 = true := by kernel_rfl
theorem fd_7_3 : fdK 7 3 = true := by kernel_rfl
theorem fd_7_4 : fdK 7 4 = true := by kernel_rfl
theorem fd_7_5 : fdK 7 5 = true := by kernel_rfl
theorem fd_7_6 : fdK 7 6 = true := by kernel_rfl
theorem fd_7_7 : fdK 7 7 = true := by kernel_rfl
theorem fd1_7_0 : fd1K 7 0 = true := by kernel_rfl
theorem fd1_7_1 : fd1K 7 1 = true := by kernel_rfl
theorem fd1_7_2 : fd1K 7 2 = true := by kernel_rfl
theorem fd1_7_3 : fd1K 7 3 = true := by kernel_rfl
theorem fd1_7_4 : fd1K 7 4 = true := by kernel_rfl
theorem fd1_7_5 : fd1K 7 5 = true := by kernel_rfl
theorem fd1_7_6 : fd1K 7 6 = true := by kernel_rfl
end X
end Go.Proofs.YtebfahobllghnaaGreatDoor
