/-
  TopDeep: Do at a snippet, by the kernel. Printed by a program (mkdeep.py).
-/
import Derived.Test.YtjmnenjejgahjaaGreatDoorDpR
set_option linter.unusedSimpArgs false
set_option linter.unusedVariables false
namespace Go.Proofs.YtjmnenjejgahjaaGreatDoor
namespace X
open Go.RowKit B
set_option maxRecDepth 1000000
theorem kI1 : kd smI rs0 cI1 = true := by kernel_rfl
theorem kI2 : kd smI rs0 cI2 = true := by kernel_rfl
theorem kI3 : kd smI rs0 cI3 = true := by kernel_rfl
theorem kI4 : kd smI rs0 cI4 = true := by kernel_rfl
theorem kI5 : kd smI rs0 cI5 = true := by kernel_rfl
end X
end Go.Proofs.YtjmnenjejgahjaaGreatDoor
