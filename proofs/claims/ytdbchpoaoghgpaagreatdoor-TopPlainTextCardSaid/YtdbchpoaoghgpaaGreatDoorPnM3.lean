/-
  TopPlainText by the kernel: 10 empty, 12 not: longer.
-/
import Derived.Test.YtdbchpoaoghgpaaGreatDoorP5
set_option linter.unusedSimpArgs false
set_option linter.unusedVariables false
namespace Go.Proofs.YtdbchpoaoghgpaaGreatDoor
namespace X
open Go.RowKit B
set_option maxRecDepth 1000000
theorem main_v4e : runX (appL exV exE) 4 = true := by kernel_rfl
theorem main_v4f : runX (appL exV exF) 4 = true := by kernel_rfl
theorem main_v5e : runX (appL exV exE) 5 = true := by kernel_rfl
theorem main_v5f : runX (appL exV exF) 5 = true := by kernel_rfl
end X
end Go.Proofs.YtdbchpoaoghgpaaGreatDoor
