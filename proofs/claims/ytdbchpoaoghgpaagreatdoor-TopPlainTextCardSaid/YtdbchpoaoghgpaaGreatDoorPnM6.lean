/-
  TopPlainText by the kernel: neither empty.
-/
import Derived.Test.YtdbchpoaoghgpaaGreatDoorP5
set_option linter.unusedSimpArgs false
set_option linter.unusedVariables false
namespace Go.Proofs.YtdbchpoaoghgpaaGreatDoor
namespace X
open Go.RowKit B
set_option maxRecDepth 1000000
theorem main_c1 : runX exC 1 = true := by kernel_rfl
theorem main_c2 : runX exC 2 = true := by kernel_rfl
theorem main_c3 : runX exC 3 = true := by kernel_rfl
theorem main_c4 : runX exC 4 = true := by kernel_rfl
theorem main_c5 : runX exC 5 = true := by kernel_rfl
end X
end Go.Proofs.YtdbchpoaoghgpaaGreatDoor
