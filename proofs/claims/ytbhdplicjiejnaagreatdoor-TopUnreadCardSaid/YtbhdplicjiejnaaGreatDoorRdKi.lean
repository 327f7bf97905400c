/-
  TopUnread by the kernel: the empty text.
-/
import Derived.Test.YtbhdplicjiejnaaGreatDoorRdR
set_option linter.unusedSimpArgs false
set_option linter.unusedVariables false
namespace Go.Proofs.YtbhdplicjiejnaaGreatDoor
namespace X
open Go.RowKit B
set_option maxRecDepth 1000000
theorem k_e0 : topE (smB 0 yM) [] [] = true := by kernel_rfl
theorem k_e1 : topE (smB 1 yM) [] [] = true := by kernel_rfl
theorem k_e2 : topE (smB 2 yM) [] [] = true := by kernel_rfl
end X
end Go.Proofs.YtbhdplicjiejnaaGreatDoor
