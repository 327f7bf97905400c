/-
  TopPlainText by the kernel: what is put in, what is typed, 2.
-/
import Derived.Test.YtdbchpoaoghgpaaGreatDoorP5
set_option linter.unusedSimpArgs false
set_option linter.unusedVariables false
namespace Go.Proofs.YtdbchpoaoghgpaaGreatDoor
namespace X
open Go.RowKit B
set_option maxRecDepth 1000000
theorem ins_1 : insK 1 false = true := by kernel_rfl
theorem ins_1e : insK 1 true = true := by kernel_rfl
theorem ins_2 : insK 2 false = true := by kernel_rfl
theorem ins_2e : insK 2 true = true := by kernel_rfl
theorem ins_3 : insK 3 false = true := by kernel_rfl
theorem ins_3e : insK 3 true = true := by kernel_rfl
end X
end Go.Proofs.YtdbchpoaoghgpaaGreatDoor
