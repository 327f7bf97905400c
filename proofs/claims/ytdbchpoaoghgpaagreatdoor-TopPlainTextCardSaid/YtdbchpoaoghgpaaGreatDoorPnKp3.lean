/-
  plain, six selected, by the kernel.
-/
import Derived.Test.YtdbchpoaoghgpaaGreatDoorP5
set_option linter.unusedSimpArgs false
set_option linter.unusedVariables false
namespace Go.Proofs.YtdbchpoaoghgpaaGreatDoor
namespace X
open Go.RowKit B
set_option maxRecDepth 1000000
theorem plx6y1 : plK 6 1 = true := by kernel_rfl
theorem plx6y2 : plK 6 2 = true := by kernel_rfl
theorem plx6y3 : plK 6 3 = true := by kernel_rfl
theorem plx6y4 : plK 6 4 = true := by kernel_rfl
theorem plx6y5 : plK 6 5 = true := by kernel_rfl
theorem plx6y6 : plK 6 6 = true := by kernel_rfl
end X
end Go.Proofs.YtdbchpoaoghgpaaGreatDoor
