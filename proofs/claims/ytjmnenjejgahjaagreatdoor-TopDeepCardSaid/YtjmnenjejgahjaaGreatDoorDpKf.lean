/-
  TopDeep: Do at typing, by the kernel. Printed by a program (mkdeep.py).
-/
import Derived.Test.YtjmnenjejgahjaaGreatDoorDpR
set_option linter.unusedSimpArgs false
set_option linter.unusedVariables false
namespace Go.Proofs.YtjmnenjejgahjaaGreatDoor
namespace X
open Go.RowKit B
set_option maxRecDepth 1000000
theorem kT6 : kd (smT 6) (rsT 6) cT6 = true := by kernel_rfl
theorem kT7 : kd (smT 7) (rsT 7) cT7 = true := by kernel_rfl
theorem kT8 : kd (smT 8) (rsT 8) cT8 = true := by kernel_rfl
end X
end Go.Proofs.YtjmnenjejgahjaaGreatDoor
