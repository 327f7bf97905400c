/-
  TopDeep: Do at typing, by the kernel. Printed by a program (mkdeep.py).
-/
import Derived.Test.YtjmnenjejgahjaaGreatDoorDpR
set_option linter.unusedSimpArgs false
set_option linter.unusedVariables false
namespace Go.Proofs.YtjmnenjejgahjaaGreatDoor
namespace X
open Go.RowKit B
set_option maxRecDepth 1000000
theorem kT1 : kd (smT 1) (rsT 1) cT1 = true := by kernel_rfl
theorem kT2 : kd (smT 2) (rsT 2) cT2 = true := by kernel_rfl
theorem kT3 : kd (smT 3) (rsT 3) cT3 = true := by kernel_rfl
theorem kT4 : kd (smT 4) (rsT 4) cT4 = true := by kernel_rfl
theorem kT5 : kd (smT 5) (rsT 5) cT5 = true := by kernel_rfl
end X
end Go.Proofs.YtjmnenjejgahjaaGreatDoor
