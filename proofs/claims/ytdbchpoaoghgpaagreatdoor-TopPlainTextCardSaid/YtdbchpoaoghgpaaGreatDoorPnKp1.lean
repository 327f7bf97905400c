/-
  plain, up to four selected, by the kernel.
-/
import Derived.Test.YtdbchpoaoghgpaaGreatDoorP5
set_option linter.unusedSimpArgs false
set_option linter.unusedVariables false
namespace Go.Proofs.YtdbchpoaoghgpaaGreatDoor
namespace X
open Go.RowKit B
set_option maxRecDepth 1000000
theorem pl_0_1 : plK 0 1 = true := by kernel_rfl
theorem pl_1_1 : plK 1 1 = true := by kernel_rfl
theorem pl_2_1 : plK 2 1 = true := by kernel_rfl
theorem pl_2_2 : plK 2 2 = true := by kernel_rfl
theorem pl_3_1 : plK 3 1 = true := by kernel_rfl
theorem pl_3_2 : plK 3 2 = true := by kernel_rfl
theorem pl_3_3 : plK 3 3 = true := by kernel_rfl
theorem pl_4_1 : plK 4 1 = true := by kernel_rfl
theorem pl_4_2 : plK 4 2 = true := by kernel_rfl
theorem pl_4_3 : plK 4 3 = true := by kernel_rfl
theorem pl_4_4 : plK 4 4 = true := by kernel_rfl
end X
end Go.Proofs.YtdbchpoaoghgpaaGreatDoor
