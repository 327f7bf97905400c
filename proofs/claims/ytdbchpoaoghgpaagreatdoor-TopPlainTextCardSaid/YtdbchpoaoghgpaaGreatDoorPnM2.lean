/-
  TopPlainText by the kernel: 10 empty, 12 not.
-/
import Derived.Test.YtdbchpoaoghgpaaGreatDoorP5
set_option linter.unusedSimpArgs false
set_option linter.unusedVariables false
namespace Go.Proofs.YtdbchpoaoghgpaaGreatDoor
namespace X
open Go.RowKit B
set_option maxRecDepth 1000000
theorem main_v1 : runX exV 1 = true := by kernel_rfl
theorem main_v2 : runX exV 2 = true := by kernel_rfl
theorem main_v3e : runX (appL exV exE) 3 = true := by kernel_rfl
theorem main_v3f : runX (appL exV exF) 3 = true := by kernel_rfl
end X
end Go.Proofs.YtdbchpoaoghgpaaGreatDoor
