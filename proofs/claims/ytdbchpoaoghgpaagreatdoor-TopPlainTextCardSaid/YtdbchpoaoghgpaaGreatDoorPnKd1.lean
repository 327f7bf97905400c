/-
  TopPlainText by the kernel: what is put in, what is typed, 1.
-/
import Derived.Test.YtdbchpoaoghgpaaGreatDoorP5
set_option linter.unusedSimpArgs false
set_option linter.unusedVariables false
namespace Go.Proofs.YtdbchpoaoghgpaaGreatDoor
namespace X
open Go.RowKit B
set_option maxRecDepth 1000000
theorem edi_1 : ediK 1 false = true := by kernel_rfl
theorem edi_1e : ediK 1 true = true := by kernel_rfl
theorem fdo_1 : fdoK 1 false = true := by kernel_rfl
theorem fdo_1e : fdoK 1 true = true := by kernel_rfl
theorem edi_2 : ediK 2 false = true := by kernel_rfl
theorem edi_2e : ediK 2 true = true := by kernel_rfl
theorem fdo_2 : fdoK 2 false = true := by kernel_rfl
theorem fdo_2e : fdoK 2 true = true := by kernel_rfl
theorem edi_3 : ediK 3 false = true := by kernel_rfl
theorem edi_3e : ediK 3 true = true := by kernel_rfl
theorem fdo_3 : fdoK 3 false = true := by kernel_rfl
theorem fdo_3e : fdoK 3 true = true := by kernel_rfl
end X
end Go.Proofs.YtdbchpoaoghgpaaGreatDoor
