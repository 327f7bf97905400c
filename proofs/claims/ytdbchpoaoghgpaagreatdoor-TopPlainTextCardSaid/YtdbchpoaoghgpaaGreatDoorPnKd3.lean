/-
  TopPlainText by the kernel: what is put in, what is typed, 3.
-/
import Derived.Test.YtdbchpoaoghgpaaGreatDoorP5
set_option linter.unusedSimpArgs false
set_option linter.unusedVariables false
namespace Go.Proofs.YtdbchpoaoghgpaaGreatDoor
namespace X
open Go.RowKit B
set_option maxRecDepth 1000000
theorem edi_4 : ediK 4 false = true := by kernel_rfl
theorem edi_4e : ediK 4 true = true := by kernel_rfl
theorem fdo_4 : fdoK 4 false = true := by kernel_rfl
theorem fdo_4e : fdoK 4 true = true := by kernel_rfl
theorem edi_5 : ediK 5 false = true := by kernel_rfl
theorem edi_5e : ediK 5 true = true := by kernel_rfl
theorem fdo_5 : fdoK 5 false = true := by kernel_rfl
theorem fdo_5e : fdoK 5 true = true := by kernel_rfl
end X
end Go.Proofs.YtdbchpoaoghgpaaGreatDoor
