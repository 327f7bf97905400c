/-
  TopEdits: RtM5.
-/
import Derived.Test.YtebfahobllghnaaGreatDoorEdC8
set_option linter.unusedSimpArgs false
set_option linter.unusedVariables false
namespace Go.Proofs.YtebfahobllghnaaGreatDoor
namespace X
open Go.RowKit B
set_option maxRecDepth 1000000
theorem m_7_0_t : mainT 7 0 true 0 = true := by kernel_rfl
theorem m_7_1_t : mainT 7 1 true 0 = true := by kernel_rfl
theorem m_7_2_t : mainT 7 2 true 0 = true := by kernel_rfl
theorem m_7_3_t : mainT 7 3 true 0 = true := by kernel_rfl
theorem m_7_4_t : mainT 7 4 true 0 = true := by kernel_rfl
theorem m_7_5_t : mainT 7 5 true 0 = true := by kernel_rfl
theorem m_7_6_t : mainT 7 6 true 0 = true := by kernel_rfl
theorem m_7_7_t : mainT 7 7 true 0 = true := by kernel_rfl
end X
end Go.Proofs.YtebfahobllghnaaGreatDoor
