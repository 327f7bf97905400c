/-
  TopPlainText by the kernel: 10 and 12 empty.
-/
import Derived.Test.YtdbchpoaoghgpaaGreatDoorP5
set_option linter.unusedSimpArgs false
set_option linter.unusedVariables false
namespace Go.Proofs.YtdbchpoaoghgpaaGreatDoor
namespace X
open Go.RowKit B
set_option maxRecDepth 1000000
theorem main_u1 : runX exU 1 = true := by kernel_rfl
theorem main_u2 : runX exU 2 = true := by kernel_rfl
theorem main_u3 : runX exU 3 = true := by kernel_rfl
theorem main_u4 : runX exU 4 = true := by kernel_rfl
theorem main_u5 : runX exU 5 = true := by kernel_rfl
end X
end Go.Proofs.YtdbchpoaoghgpaaGreatDoor
