/-
  plain, five selected, by the kernel.
-/
import Derived.Test.YtdbchpoaoghgpaaGreatDoorP5
set_option linter.unusedSimpArgs false
set_option linter.unusedVariables false
namespace Go.Proofs.YtdbchpoaoghgpaaGreatDoor
namespace X
open Go.RowKit B
set_option maxRecDepth 1000000
theorem plx5y1 : plK 5 1 = true := by kernel_rfl
theorem plx5y2 : plK 5 2 = true := by kernel_rfl
theorem plx5y3 : plK 5 3 = true := by kernel_rfl
theorem plx5y4 : plK 5 4 = true := by kernel_rfl
theorem plx5y5 : plK 5 5 = true := by kernel_rfl
end X
end Go.Proofs.YtdbchpoaoghgpaaGreatDoor
