/-
  awake, by the kernel.
-/
import Derived.Test.YtjmnenjejgahjaaGreatDoorDpA
set_option linter.unusedSimpArgs false
set_option linter.unusedVariables false
namespace Go.Proofs.YtjmnenjejgahjaaGreatDoor
namespace X
open Go.RowKit B
set_option maxRecDepth 1000000
theorem awake_k : callBy Tryz.prog smI (ev Tryz.prog smI 1000000) 4 [] .lf 0 [] isTrue = true := by kernel_rfl
end X
end Go.Proofs.YtjmnenjejgahjaaGreatDoor
