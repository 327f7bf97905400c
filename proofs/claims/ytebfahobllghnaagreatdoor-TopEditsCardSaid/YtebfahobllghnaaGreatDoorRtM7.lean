/-
  TopEdits: RtM7.
-/
import Derived.Test.YtebfahobllghnaaGreatDoorEdC8
set_option linter.unusedSimpArgs false
set_option linter.unusedVariables false
namespace Go.Proofs.YtebfahobllghnaaGreatDoor
namespace X
open Go.RowKit B
set_option maxRecDepth 1000000
theorem m_8_0_t : mainT 8 0 true 0 = true := by kernel_rfl
theorem m_8_1_t : mainT 8 1 true 0 = true := by kernel_rfl
theorem m_8_2_t : mainT 8 2 true 0 = true := by kernel_rfl
theorem m_8_3_t : mainT 8 3 true 0 = true := by kernel_rfl
theorem m_8_4_t : mainT 8 4 true 0 = true := by kernel_rfl
theorem m_8_5_t : mainT 8 5 true 0 = true := by kernel_rfl
theorem m_8_6_t : mainT 8 6 true 0 = true := by kernel_rfl
theorem m_8_7_t : mainT 8 7 true 0 = true := by kernel_rfl
theorem m_8_8_t : mainT 8 8 true 0 = true := by kernel_rfl
end X
end Go.Proofs.YtebfahobllghnaaGreatDoor
