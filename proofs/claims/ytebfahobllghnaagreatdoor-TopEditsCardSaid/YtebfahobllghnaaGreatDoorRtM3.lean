/-
  TopEdits: RtM3.
-/
import Derived.Test.YtebfahobllghnaaGreatDoorEdC8
set_option linter.unusedSimpArgs false
set_option linter.unusedVariables false
namespace Go.Proofs.YtebfahobllghnaaGreatDoor
namespace X
open Go.RowKit B
set_option maxRecDepth 1000000
theorem m_6_0_f : mainT 6 0 false 0 = true := by kernel_rfl
theorem m_6_1_f : mainT 6 1 false 0 = true := by kernel_rfl
theorem m_6_2_f : mainT 6 2 false 0 = true := by kernel_rfl
theorem m_6_3_f : mainT 6 3 false 0 = true := by kernel_rfl
theorem m_6_4_f : mainT 6 4 false 0 = true := by kernel_rfl
theorem m_6_5_f : mainT 6 5 false 0 = true := by kernel_rfl
theorem m_6_6_f : mainT 6 6 false 0 = true := by kernel_rfl
theorem m_6_0_t : mainT 6 0 true 0 = true := by kernel_rfl
theorem m_6_1_t : mainT 6 1 true 0 = true := by kernel_rfl
theorem m_6_2_t : mainT 6 2 true 0 = true := by kernel_rfl
theorem m_6_3_t : mainT 6 3 true 0 = true := by kernel_rfl
theorem m_6_4_t : mainT 6 4 true 0 = true := by kernel_rfl
theorem m_6_5_t : mainT 6 5 true 0 = true := by kernel_rfl
theorem m_6_6_t : mainT 6 6 true 0 = true := by kernel_rfl
end X
end Go.Proofs.YtebfahobllghnaaGreatDoor
