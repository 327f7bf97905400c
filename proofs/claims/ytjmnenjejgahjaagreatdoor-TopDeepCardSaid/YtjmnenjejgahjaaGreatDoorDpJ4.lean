/-
  Closed facts of the row, by the kernel.
-/
import Derived.Test.YtjmnenjejgahjaaGreatDoorRows
import Derived.JoinedOf
import GoSem.ClaimSeven
import Derived.SevenTiedAt
set_option linter.unusedSimpArgs false
set_option linter.unusedVariables false
namespace Go.Proofs.YtjmnenjejgahjaaGreatDoor
namespace X
theorem j_looks : (Tryz.prog.looks []) = false := by kernel_rfl
theorem j_main : (Tryz.prog.mainIs) = some (true, "fdd7c79c4f74f77c8a6f8ea19a8c01052503e5a22931da8f5385231e5ee1c23b".toList) := by kernel_rfl
theorem j_w3 : (Tryz.prog.wantsStandIn 3) = false := by kernel_rfl
theorem j_w9 : (Tryz.prog.wantsStandIn 9) = false := by kernel_rfl
theorem j_fn : (Tryz.prog.funcNamed "gimlet/gimlettop.TopDeep") = some 3 := by kernel_rfl
end X
end Go.Proofs.YtjmnenjejgahjaaGreatDoor
