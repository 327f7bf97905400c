/-
  TopEdits: RtM4.
-/
import Derived.Test.YtebfahobllghnaaGreatDoorEdC8
set_option linter.unusedSimpArgs false
set_option linter.unusedVariables false
namespace Go.Proofs.YtebfahobllghnaaGreatDoor
namespace X
open Go.RowKit B
set_option maxRecDepth 1000000
theorem mx7y0_f : mainT 7 0 false 0 = true := by kernel_rfl
theorem mx7y1_f : mainT 7 1 false 0 = true := by kernel_rfl
theorem mx7y2_f : mainT 7 2 false 0 = true := by kernel_rfl
theorem mx7y3_f : mainT 7 3 false 0 = true := by kernel_rfl
theorem mx7y4_f : mainT 7 4 false 0 = true := by kernel_rfl
theorem mx7y5_f : mainT 7 5 false 0 = true := by kernel_rfl
theorem mx7y6_f : mainT 7 6 false 0 = true := by kernel_rfl
theorem mx7y7_f : mainT 7 7 false 0 = true := by kernel_rfl
end X
end Go.Proofs.YtebfahobllghnaaGreatDoor
