/-
  plain, up to four selected, by the kernel.
-/
import Derived.Test.YtdbchpoaoghgpaaGreatDoorP5
set_option linter.unusedSimpArgs false
set_option linter.unusedVariables false
namespace Go.Proofs.YtdbchpoaoghgpaaGreatDoor
namespace X
open Go.RowKit B
set_option maxRecDepth 1000000
theorem plx0y1 : plK 0 1 = true := by kernel_rfl
theorem plx1y1 : plK 1 1 = true := by kernel_rfl
theorem plx2y1 : plK 2 1 = true := by kernel_rfl
theorem plx2y2 : plK 2 2 = true := by kernel_rfl
theorem plx3y1 : plK 3 1 = true := by kernel_rfl
theorem plx3y2 : plK 3 2 = true := by kernel_rfl
theorem plx3y3 : plK 3 3 = true := by kernel_rfl
theorem plx4y1 : plK 4 1 = true := by kernel_rfl
theorem plx4y2 : plK 4 2 = true := by kernel_rfl
theorem plx4y3 : plK 4 3 = true := by kernel_rfl
theorem plx4y4 : plK 4 4 = true := by kernel_rfl
end X
end Go.Proofs.YtdbchpoaoghgpaaGreatDoor
