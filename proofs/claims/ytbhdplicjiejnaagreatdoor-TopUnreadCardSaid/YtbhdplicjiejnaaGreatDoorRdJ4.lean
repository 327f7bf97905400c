/-
  Closed facts of the row, by the kernel.
-/
import Derived.Test.YtbhdplicjiejnaaGreatDoorRows
import Derived.JoinedOf
import GoSem.ClaimSeven
import Derived.SevenTiedAt
set_option linter.unusedSimpArgs false
set_option linter.unusedVariables false
namespace Go.Proofs.YtbhdplicjiejnaaGreatDoor
namespace X
theorem j_looks : (Tryz.prog.looks []) = false := by kernel_rfl
theorem j_main : (Tryz.prog.mainIs) = some (true, "3b5f21897934126d215d5b4ec5af4cffb90c8e993db3978f0a377d5dd3acba2a".toList) := by kernel_rfl
theorem j_w3 : (Tryz.prog.wantsStandIn 3) = false := by kernel_rfl
theorem j_w9 : (Tryz.prog.wantsStandIn 9) = false := by kernel_rfl
theorem j_fn : (Tryz.prog.funcNamed "gimlet/gimlettop.TopUnread") = some 3 := by kernel_rfl
end X
end Go.Proofs.YtbhdplicjiejnaaGreatDoor
