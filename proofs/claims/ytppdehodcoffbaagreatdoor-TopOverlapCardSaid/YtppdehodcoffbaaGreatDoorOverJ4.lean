/-
  Closed facts of the row, by the kernel.
-/
import Derived.Test.YtppdehodcoffbaaGreatDoorRows
import Derived.JoinedOf
import GoSem.ClaimSeven
import Derived.SevenTiedAt
set_option linter.unusedSimpArgs false
set_option linter.unusedVariables false
namespace Go.Proofs.YtppdehodcoffbaaGreatDoor
namespace X
theorem j_looks : (Tryz.prog.looks []) = false := by kernel_rfl
theorem j_main : (Tryz.prog.mainIs) = some (true, "cc828b96c57ec68d27cdc66b69142f8a3039b415ef14b546626775e0ab555510".toList) := by kernel_rfl
theorem j_w3 : (Tryz.prog.wantsStandIn 3) = false := by kernel_rfl
theorem j_w4 : (Tryz.prog.wantsStandIn 4) = false := by kernel_rfl
theorem j_w9 : (Tryz.prog.wantsStandIn 9) = false := by kernel_rfl
theorem j_fn : (Tryz.prog.funcNamed "gimlet/gimlettop.TopOverlap") = some 3 := by kernel_rfl
end X
end Go.Proofs.YtppdehodcoffbaaGreatDoor
