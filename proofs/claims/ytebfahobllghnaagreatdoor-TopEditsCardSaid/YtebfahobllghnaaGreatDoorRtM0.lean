/-
  TopEdits: RtM0.
-/
import Derived.Test.YtebfahobllghnaaGreatDoorEdC8
set_option linter.unusedSimpArgs false
set_option linter.unusedVariables false
namespace Go.Proofs.YtebfahobllghnaaGreatDoor
namespace X
open Go.RowKit B
set_option maxRecDepth 1000000
theorem m_0_0_f : mainT 0 0 false 0 = true := by kernel_rfl
theorem m_0_0_t : mainT 0 0 true 0 = true := by kernel_rfl
theorem m0_1_f : mainT 0 0 false 1 = true := by kernel_rfl
theorem m0_1_t : mainT 0 0 true 1 = true := by kernel_rfl
theorem m0_2_f : mainT 0 0 false 2 = true := by kernel_rfl
theorem m0_2_t : mainT 0 0 true 2 = true := by kernel_rfl
theorem m0_3_f : mainT 0 0 false 3 = true := by kernel_rfl
theorem m0_3_t : mainT 0 0 true 3 = true := by kernel_rfl
theorem m_1_0_f : mainT 1 0 false 0 = true := by kernel_rfl
theorem m_1_1_f : mainT 1 1 false 0 = true := by kernel_rfl
theorem m_1_0_t : mainT 1 0 true 0 = true := by kernel_rfl
theorem m_1_1_t : mainT 1 1 true 0 = true := by kernel_rfl
theorem m_2_0_f : mainT 2 0 false 0 = true := by kernel_rfl
theorem m_2_1_f : mainT 2 1 false 0 = true := by kernel_rfl
theorem m_2_2_f : mainT 2 2 false 0 = true := by kernel_rfl
theorem m_2_0_t : mainT 2 0 true 0 = true := by kernel_rfl
theorem m_2_1_t : mainT 2 1 true 0 = true := by kernel_rfl
theorem m_2_2_t : mainT 2 2 true 0 = true := by kernel_rfl
theorem m_3_0_f : mainT 3 0 false 0 = true := by kernel_rfl
theorem m_3_1_f : mainT 3 1 false 0 = true := by kernel_rfl
theorem m_3_2_f : mainT 3 2 false 0 = true := by kernel_rfl
theorem m_3_3_f : mainT 3 3 false 0 = true := by kernel_rfl
theorem m_3_0_t : mainT 3 0 true 0 = true := by kernel_rfl
theorem m_3_1_t : mainT 3 1 true 0 = true := by kernel_rfl
theorem m_3_2_t : mainT 3 2 true 0 = true := by kernel_rfl
theorem m_3_3_t : mainT 3 3 true 0 = true := by kernel_rfl
end X
end Go.Proofs.YtebfahobllghnaaGreatDoor
