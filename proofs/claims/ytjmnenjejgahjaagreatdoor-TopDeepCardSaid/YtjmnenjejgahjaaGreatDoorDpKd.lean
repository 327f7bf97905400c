/-
  TopDeep: the sheet's Do, by the kernel. Printed by a program (mkdeep.py).
-/
import Derived.Test.YtjmnenjejgahjaaGreatDoorDpR
set_option linter.unusedSimpArgs false
set_option linter.unusedVariables false
namespace Go.Proofs.YtjmnenjejgahjaaGreatDoor
namespace X
open Go.RowKit B
set_option maxRecDepth 1000000
theorem kS5 : ks 5 = true := by kernel_rfl
theorem kS6 : ks 6 = true := by kernel_rfl
theorem kS7 : ks 7 = true := by kernel_rfl
theorem kS8 : ks 8 = true := by kernel_rfl
end X
end Go.Proofs.YtjmnenjejgahjaaGreatDoor
