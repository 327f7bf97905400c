/-
  The empty text, by the kernel.
-/
import Derived.Test.YtdbchpoaoghgpaaGreatDoorP5
set_option linter.unusedSimpArgs false
set_option linter.unusedVariables false
namespace Go.Proofs.YtdbchpoaoghgpaaGreatDoor
namespace X
open Go.RowKit B
set_option maxRecDepth 1000000
theorem plE_0 : plEK 0 = true := by kernel_rfl
theorem plE_1 : plEK 1 = true := by kernel_rfl
theorem plE_2 : plEK 2 = true := by kernel_rfl
theorem plE_3 : plEK 3 = true := by kernel_rfl
theorem plE_4 : plEK 4 = true := by kernel_rfl
theorem plE_5 : plEK 5 = true := by kernel_rfl
theorem plE_6 : plEK 6 = true := by kernel_rfl
theorem dnIe_t : dnIeK true = true := by kernel_rfl
theorem dnIe_f : dnIeK false = true := by kernel_rfl
theorem dnTe_t : dnTeK true = true := by kernel_rfl
theorem dnTe_f : dnTeK false = true := by kernel_rfl
theorem tw_k : twK = true := by kernel_rfl
end X
end Go.Proofs.YtdbchpoaoghgpaaGreatDoor

set_option linter.unusedSimpArgs false
set_option linter.unusedVariables false
namespace Go.Proofs.YtdbchpoaoghgpaaGreatDoor
namespace X
open Go.RowKit B
set_option maxRecDepth 1000000
theorem lg_a : lgK lgA = true := by kernel_rfl
theorem lg_b : lgK lgB = true := by kernel_rfl
theorem lg_c : lgK lgC = true := by kernel_rfl
theorem lb_k : lbK = true := by kernel_rfl
end X
end Go.Proofs.YtdbchpoaoghgpaaGreatDoor
