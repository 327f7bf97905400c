/-
  Closed facts of the row, by the kernel.
-/
import Derived.Test.YtdbchpoaoghgpaaGreatDoorRows
import Derived.JoinedOf
import GoSem.ClaimSeven
import Derived.SevenTiedAt
set_option linter.unusedSimpArgs false
set_option linter.unusedVariables false
namespace Go.Proofs.YtdbchpoaoghgpaaGreatDoor
namespace X
theorem j_looks : (Tryz.prog.looks []) = false := by kernel_rfl
theorem j_main : (Tryz.prog.mainIs) = some (true, "bc9f839e5d64eafaa6866776bf53d843b56b2baf766ac4a7c1c0db5871afbb99".toList) := by kernel_rfl
theorem j_w22 : (Tryz.prog.wantsStandIn 22) = false := by kernel_rfl
theorem j_w9 : (Tryz.prog.wantsStandIn 9) = false := by kernel_rfl
theorem j_fn : (Tryz.prog.funcNamed "gimlet/gimlettop.TopPlainText") = some 3 := by kernel_rfl
end X
end Go.Proofs.YtdbchpoaoghgpaaGreatDoor
