/-
  TopEdits: RtM6.
-/
import Derived.Test.YtebfahobllghnaaGreatDoorEdC8
set_option linter.unusedSimpArgs false
set_option linter.unusedVariables false
namespace Go.Proofs.YtebfahobllghnaaGreatDoor
namespace X
open Go.RowKit B
set_option maxRecDepth 1000000
theorem m_8_0_f : mainT 8 0 false 0 = true := by kernel_rfl
theorem m_8_1_f : mainT 8 1 false 0 = true := by kernel_rfl
theorem m_8_2_f : mainT 8 2 false 0 = true := by kernel_rfl
theorem m_8_3_f : mainT 8 3 false 0 = true := by kernel_rfl
theorem m_8_4_f : mainT 8 4 false 0 = true := by kernel_rfl
theorem m_8_5_f : mainT 8 5 false 0 = true := by kernel_rfl
theorem m_8_6_f : mainT 8 6 false 0 = true := by kernel_rfl
theorem m_8_7_f : mainT 8 7 false 0 = true := by kernel_rfl
theorem m_8_8_f : mainT 8 8 false 0 = true := by kernel_rfl
end X
end Go.Proofs.YtebfahobllghnaaGreatDoor
