/-
  TopEdits: RtM2.
-/
import Derived.Test.YtebfahobllghnaaGreatDoorEdC8
set_option linter.unusedSimpArgs false
set_option linter.unusedVariables false
namespace Go.Proofs.YtebfahobllghnaaGreatDoor
namespace X
open Go.RowKit B
set_option maxRecDepth 1000000
theorem m_5_0_f : mainT 5 0 false 0 = true := by kernel_rfl
theorem m_5_1_f : mainT 5 1 false 0 = true := by kernel_rfl
theorem m_5_2_f : mainT 5 2 false 0 = true := by kernel_rfl
theorem m_5_3_f : mainT 5 3 false 0 = true := by kernel_rfl
theorem m_5_4_f : mainT 5 4 false 0 = true := by kernel_rfl
theorem m_5_5_f : mainT 5 5 false 0 = true := by kernel_rfl
theorem m_5_0_t : mainT 5 0 true 0 = true := by kernel_rfl
theorem m_5_1_t : mainT 5 1 true 0 = true := by kernel_rfl
theorem m_5_2_t : mainT 5 2 true 0 = true := by kernel_rfl
theorem m_5_3_t : mainT 5 3 true 0 = true := by kernel_rfl
theorem m_5_4_t : mainT 5 4 true 0 = true := by kernel_rfl
theorem m_5_5_t : mainT 5 5 true 0 = true := by kernel_rfl
end X
end Go.Proofs.YtebfahobllghnaaGreatDoor
