/-
  TopPlainText by the kernel: 12 empty, 10 not: longer.
-/
import Derived.Test.YtdbchpoaoghgpaaGreatDoorP5
set_option linter.unusedSimpArgs false
set_option linter.unusedVariables false
namespace Go.Proofs.YtdbchpoaoghgpaaGreatDoor
namespace X
open Go.RowKit B
set_option maxRecDepth 1000000
theorem main_b4e : runX (appL exB exE) 4 = true := by kernel_rfl
theorem main_b4f : runX (appL exB exF) 4 = true := by kernel_rfl
theorem main_b5e : runX (appL exB exE) 5 = true := by kernel_rfl
theorem main_b5f : runX (appL exB exF) 5 = true := by kernel_rfl
end X
end Go.Proofs.YtdbchpoaoghgpaaGreatDoor
