/-
  sels.Move by the kernel.
-/
import Derived.Test.YtdbchpoaoghgpaaGreatDoorP5
set_option linter.unusedSimpArgs false
set_option linter.unusedVariables false
namespace Go.Proofs.YtdbchpoaoghgpaaGreatDoor
namespace X
open Go.RowKit B
set_option maxRecDepth 1000000
theorem smv_1 : smK 1 = true := by kernel_rfl
theorem smv_2 : smK 2 = true := by kernel_rfl
theorem smv_3 : smK 3 = true := by kernel_rfl
theorem smv_4 : smK 4 = true := by kernel_rfl
theorem smv_5 : smK 5 = true := by kernel_rfl
theorem smv_6 : smK 6 = true := by kernel_rfl
end X
end Go.Proofs.YtdbchpoaoghgpaaGreatDoor
