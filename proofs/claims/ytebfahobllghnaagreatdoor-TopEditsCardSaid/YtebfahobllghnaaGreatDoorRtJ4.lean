/-
  TopEdits: RtJ4.
-/
import Derived.Test.YtebfahobllghnaaGreatDoorRows
import Derived.JoinedOf
import GoSem.ClaimSeven
import Derived.SevenTiedAt
set_option linter.unusedSimpArgs false
set_option linter.unusedVariables false
namespace Go.Proofs.YtebfahobllghnaaGreatDoor
namespace X
theorem j_looks : (Tryz.prog.looks []) = false := by kernel_rfl
theorem j_main : (Tryz.prog.mainIs) = some (true, "8f3451e4e2258320492d909d1fcf9a764036b858bba0bac0e6510474dacbd6eb".toList) := by kernel_rfl
theorem j_w22 : (Tryz.prog.wantsStandIn 22) = false := by kernel_rfl
theorem j_w23 : (Tryz.prog.wantsStandIn 23) = false := by kernel_rfl
theorem j_w3 : (Tryz.prog.wantsStandIn 3) = false := by kernel_rfl
theorem j_w9 : (Tryz.prog.wantsStandIn 9) = false := by kernel_rfl
theorem j_fn : (Tryz.prog.funcNamed "gimlet/gimlettop.TopEdits") = some 3 := by kernel_rfl
end X
end Go.Proofs.YtebfahobllghnaaGreatDoor
