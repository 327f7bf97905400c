/-
  TopDeep: Do at Next, by the kernel. Printed by a program (mkdeep.py).
-/
import Derived.Test.YtjmnenjejgahjaaGreatDoorDpR
set_option linter.unusedSimpArgs false
set_option linter.unusedVariables false
namespace Go.Proofs.YtjmnenjejgahjaaGreatDoor
namespace X
open Go.RowKit B
set_option maxRecDepth 1000000
theorem kN1_1 : kd smI rs0 cN1_1 = true := by kernel_rfl
theorem kN1_2 : kd smI rs0 cN1_2 = true := by kernel_rfl
theorem kN2_1 : kd smI rs0 cN2_1 = true := by kernel_rfl
theorem kN2_2 : kd smI rs0 cN2_2 = true := by kernel_rfl
theorem kN2_3 : kd smI rs0 cN2_3 = true := by kernel_rfl
theorem kN3_1 : kd smI rs0 cN3_1 = true := by kernel_rfl
theorem kN3_2 : kd smI rs0 cN3_2 = true := by kernel_rfl
theorem kN3_3 : kd smI rs0 cN3_3 = true := by kernel_rfl
theorem kN3_4 : kd smI rs0 cN3_4 = true := by kernel_rfl
theorem kN4_1 : kd smI rs0 cN4_1 = true := by kernel_rfl
theorem kN4_2 : kd smI rs0 cN4_2 = true := by kernel_rfl
theorem kN4_3 : kd smI rs0 cN4_3 = true := by kernel_rfl
theorem kN4_4 : kd smI rs0 cN4_4 = true := by kernel_rfl
theorem kN4_5 : kd smI rs0 cN4_5 = true := by kernel_rfl
theorem kN5_1 : kd smI rs0 cN5_1 = true := by kernel_rfl
theorem kN5_2 : kd smI rs0 cN5_2 = true := by kernel_rfl
theorem kN5_3 : kd smI rs0 cN5_3 = true := by kernel_rfl
theorem kN5_4 : kd smI rs0 cN5_4 = true := by kernel_rfl
theorem kN5_5 : kd smI rs0 cN5_5 = true := by kernel_rfl
theorem kN5_6 : kd smI rs0 cN5_6 = true := by kernel_rfl
theorem kN6_1 : kd smI rs0 cN6_1 = true := by kernel_rfl
theorem kN6_2 : kd smI rs0 cN6_2 = true := by kernel_rfl
theorem kN6_3 : kd smI rs0 cN6_3 = true := by kernel_rfl
theorem kN6_4 : kd smI rs0 cN6_4 = true := by kernel_rfl
theorem kN6_5 : kd smI rs0 cN6_5 = true := by kernel_rfl
theorem kN6_6 : kd smI rs0 cN6_6 = true := by kernel_rfl
theorem kN6_7 : kd smI rs0 cN6_7 = true := by kernel_rfl
theorem kN7_1 : kd smI rs0 cN7_1 = true := by kernel_rfl
theorem kN7_2 : kd smI rs0 cN7_2 = true := by kernel_rfl
theorem kN7_3 : kd smI rs0 cN7_3 = true := by kernel_rfl
theorem kN7_4 : kd smI rs0 cN7_4 = true := by kernel_rfl
theorem kN7_5 : kd smI rs0 cN7_5 = true := by kernel_rfl
theorem kN7_6 : kd smI rs0 cN7_6 = true := by kernel_rfl
theorem kN7_7 : kd smI rs0 cN7_7 = true := by kernel_rfl
theorem kN7_8 : kd smI rs0 cN7_8 = true := by kernel_rfl
theorem kN8_1 : kd smI rs0 cN8_1 = true := by kernel_rfl
theorem kN8_2 : kd smI rs0 cN8_2 = true := by kernel_rfl
theorem kN8_3 : kd smI rs0 cN8_3 = true := by kernel_rfl
theorem kN8_4 : kd smI rs0 cN8_4 = true := by kernel_rfl
theorem kN8_5 : kd smI rs0 cN8_5 = true := by kernel_rfl
theorem kN8_6 : kd smI rs0 cN8_6 = true := by kernel_rfl
theorem kN8_7 : kd smI rs0 cN8_7 = true := by kernel_rfl
theorem kN8_8 : kd smI rs0 cN8_8 = true := by kernel_rfl
theorem kN8_9 : kd smI rs0 cN8_9 = true := by kernel_rfl
end X
end Go.Proofs.YtjmnenjejgahjaaGreatDoor
