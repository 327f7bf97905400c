/-
  TopEdits: RtM1.
-/
import Derived.Test.YtebfahobllghnaaGreatDoorEdC8
set_option linter.unusedSimpArgs false
set_option linter.unusedVariables false
namespace Go.Proofs.YtebfahobllghnaaGreatDoor
namespace X
open Go.RowKit B
set_option maxRecDepth 1000000
theorem m_4_0_f : mainT 4 0 false 0 = true := by kernel_rfl
theorem m_4_1_f : mainT 4 1 false 0 = true := by kernel_rfl
theorem m_4_2_f : mainT 4 2 false 0 = true := by kernel_rfl
theorem m_4_3_f : mainT 4 3 false 0 = true := by kernel_rfl
theorem m_4_4_f : mainT 4 4 false 0 = true := by kernel_rfl
theorem m_4_0_t : mainT 4 0 true 0 = true := by kernel_rfl
theorem m_4_1_t : mainT 4 1 true 0 = true := by kernel_rfl
theorem m_4_2_t : mainT 4 2 true 0 = true := by kernel_rfl
theorem m_4_3_t : mainT 4 3 true 0 = true := by kernel_rfl
theorem m_4_4_t : mainT 4 4 true 0 = true := by kernel_rfl
end X
end Go.Proofs.YtebfahobllghnaaGreatDoor
