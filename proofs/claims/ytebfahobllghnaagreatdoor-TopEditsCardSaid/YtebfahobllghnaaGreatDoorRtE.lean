/-
  TopEdits: RtE.
-/
import Derived.Test.YtebfahobllghnaaGreatDoorEdC8
set_option linter.unusedSimpArgs false
set_option linter.unusedVariables false
namespace Go.Proofs.YtebfahobllghnaaGreatDoor
namespace X
open Go.RowKit B
set_option maxRecDepth 1000000
noncomputable def eg8 : Nat → Nat → Bool
  | _, 0 => true
  | c, n + 1 => egK 8 c && eg8 (Nat.succ c) n
theorem e_0 : rdK 0 0 = true := by kernel_rfl
theorem e_1 : rdsK 1 1 1 = true := by kernel_rfl
theorem e_2 : rdsK 2 1 2 = true := by kernel_rfl
theorem e_3 : rdsK 3 1 3 = true := by kernel_rfl
theorem e_4 : rdsK 4 1 4 = true := by kernel_rfl
theorem e_5 : rdsK 5 1 5 = true := by kernel_rfl
theorem e_6 : rdsK 6 1 6 = true := by kernel_rfl
theorem e_7 : rdsK 7 1 7 = true := by kernel_rfl
theorem e_8 : eg8 1 8 = true := by kernel_rfl
theorem e_n1 : e0K 1 = true := by kernel_rfl
theorem e_n2 : e0K 2 = true := by kernel_rfl
theorem e_n3 : e0K 3 = true := by kernel_rfl
end X
end Go.Proofs.YtebfahobllghnaaGreatDoor
