/-
  TopPlainText by the kernel: nothing selected; the empty text.
-/
import Derived.Test.YtdbchpoaoghgpaaGreatDoorP5
set_option linter.unusedSimpArgs false
set_option linter.unusedVariables false
namespace Go.Proofs.YtdbchpoaoghgpaaGreatDoor
namespace X
open Go.RowKit B
set_option maxRecDepth 1000000
theorem main0_u1 : run0 exU 1 = true := by kernel_rfl
theorem main0_u2 : run0 exU 2 = true := by kernel_rfl
theorem main0_v1 : run0 exV 1 = true := by kernel_rfl
theorem main0_v2 : run0 exV 2 = true := by kernel_rfl
theorem main0_b1 : run0 exB 1 = true := by kernel_rfl
theorem main0_b2 : run0 exB 2 = true := by kernel_rfl
theorem main0_c1 : run0 exC 1 = true := by kernel_rfl
theorem main0_c2 : run0 exC 2 = true := by kernel_rfl
theorem main_e : mainK true 300 nsV [(0, nsB)] [] = true := by kernel_rfl
theorem main0_e : mainK true 300 (.sv 0 (.mk 0 [])) [] [] = true := by kernel_rfl
end X
end Go.Proofs.YtdbchpoaoghgpaaGreatDoor
