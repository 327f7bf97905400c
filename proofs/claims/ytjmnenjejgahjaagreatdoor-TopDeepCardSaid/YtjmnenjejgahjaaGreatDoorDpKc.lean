/-
  TopDeep: the sheet's Do, by the kernel. Printed by a program (mkdeep.py).
-/
import Derived.Test.YtjmnenjejgahjaaGreatDoorDpR
set_option linter.unusedSimpArgs false
set_option linter.unusedVariables false
namespace Go.Proofs.YtjmnenjejgahjaaGreatDoor
namespace X
open Go.RowKit B
set_option maxRecDepth 1000000
theorem kS1 : ks 1 = true := by kernel_rfl
theorem kS2 : ks 2 = true := by kernel_rfl
theorem kS3 : ks 3 = true := by kernel_rfl
theorem kS4 : ks 4 = true := by kernel_rfl
end X
end Go.Proofs.YtjmnenjejgahjaaGreatDoor
