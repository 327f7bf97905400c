/-
  TopPlainText by the kernel: 12 empty, 10 not.
-/
import Derived.Test.YtdbchpoaoghgpaaGreatDoorP5
set_option linter.unusedSimpArgs false
set_option linter.unusedVariables false
namespace Go.Proofs.YtdbchpoaoghgpaaGreatDoor
namespace X
open Go.RowKit B
set_option maxRecDepth 1000000
theorem main_b1 : runX exB 1 = true := by kernel_rfl
theorem main_b2 : runX exB 2 = true := by kernel_rfl
theorem main_b3e : runX (appL exB exE) 3 = true := by kernel_rfl
theorem main_b3f : runX (appL exB exF) 3 = true := by kernel_rfl
end X
end Go.Proofs.YtdbchpoaoghgpaaGreatDoor
