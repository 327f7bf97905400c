/-
  TopDeep: Do at a snippet, by the kernel. Printed by a program (mkdeep.py).
-/
import Derived.Test.YtjmnenjejgahjaaGreatDoorDpR
set_option linter.unusedSimpArgs false
set_option linter.unusedVariables false
namespace Go.Proofs.YtjmnenjejgahjaaGreatDoor
namespace X
open Go.RowKit B
set_option maxRecDepth 1000000
theorem kI6 : kd smI rs0 cI6 = true := by kernel_rfl
theorem kI7 : kd smI rs0 cI7 = true := by kernel_rfl
theorem kI8 : kd smI rs0 cI8 = true := by kernel_rfl
end X
end Go.Proofs.YtjmnenjejgahjaaGreatDoor
