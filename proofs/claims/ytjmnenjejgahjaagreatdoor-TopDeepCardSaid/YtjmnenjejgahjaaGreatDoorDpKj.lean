/-
  TopDeep: TopDeep for each number of snippets, by the kernel. Printed by a program (mkdeep.py).
-/
import Derived.Test.YtjmnenjejgahjaaGreatDoorDpR
set_option linter.unusedSimpArgs false
set_option linter.unusedVariables false
namespace Go.Proofs.YtjmnenjejgahjaaGreatDoor
namespace X
open Go.RowKit B
set_option maxRecDepth 1000000
theorem main6 : callBy Tryz.prog (smM 6) (ev Tryz.prog (smM 6) 1000000) 3 argsD .lf 0 pcD isTrue = true := by kernel_rfl
theorem main7 : callBy Tryz.prog (smM 7) (ev Tryz.prog (smM 7) 1000000) 3 argsD .lf 0 pcD isTrue = true := by kernel_rfl
theorem main8 : callBy Tryz.prog (smM 8) (ev Tryz.prog (smM 8) 1000000) 3 argsD .lf 0 pcD isTrue = true := by kernel_rfl
end X
end Go.Proofs.YtjmnenjejgahjaaGreatDoor
