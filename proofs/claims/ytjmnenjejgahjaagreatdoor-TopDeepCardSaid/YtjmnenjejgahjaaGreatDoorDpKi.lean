/-
  TopDeep: TopDeep for each number of snippets, by the kernel. Printed by a program (mkdeep.py).
-/
import Derived.Test.YtjmnenjejgahjaaGreatDoorDpR
set_option linter.unusedSimpArgs false
set_option linter.unusedVariables false
namespace Go.Proofs.YtjmnenjejgahjaaGreatDoor
namespace X
open Go.RowKit B
set_option maxRecDepth 1000000
theorem main1 : callBy Tryz.prog (smM 1) (ev Tryz.prog (smM 1) 1000000) 3 argsD .lf 0 pcD isTrue = true := by kernel_rfl
theorem main2 : callBy Tryz.prog (smM 2) (ev Tryz.prog (smM 2) 1000000) 3 argsD .lf 0 pcD isTrue = true := by kernel_rfl
theorem main3 : callBy Tryz.prog (smM 3) (ev Tryz.prog (smM 3) 1000000) 3 argsD .lf 0 pcD isTrue = true := by kernel_rfl
theorem main4 : callBy Tryz.prog (smM 4) (ev Tryz.prog (smM 4) 1000000) 3 argsD .lf 0 pcD isTrue = true := by kernel_rfl
theorem main5 : callBy Tryz.prog (smM 5) (ev Tryz.prog (smM 5) 1000000) 3 argsD .lf 0 pcD isTrue = true := by kernel_rfl
end X
end Go.Proofs.YtjmnenjejgahjaaGreatDoor
