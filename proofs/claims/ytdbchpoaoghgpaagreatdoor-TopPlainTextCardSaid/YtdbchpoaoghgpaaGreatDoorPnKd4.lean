/-
  TopPlainText by the kernel: what is put in, what is typed, 4.
-/
import Derived.Test.YtdbchpoaoghgpaaGreatDoorP5
set_option linter.unusedSimpArgs false
set_option linter.unusedVariables false
namespace Go.Proofs.YtdbchpoaoghgpaaGreatDoor
namespace X
open Go.RowKit B
set_option maxRecDepth 1000000
theorem edi_6 : ediK 6 false = true := by kernel_rfl
theorem edi_6e : ediK 6 true = true := by kernel_rfl
theorem fdo_6 : fdoK 6 false = true := by kernel_rfl
theorem fdo_6e : fdoK 6 true = true := by kernel_rfl
end X
end Go.Proofs.YtdbchpoaoghgpaaGreatDoor
