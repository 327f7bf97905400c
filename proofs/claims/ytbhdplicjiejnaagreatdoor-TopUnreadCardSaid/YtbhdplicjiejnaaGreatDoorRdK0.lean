/-
  awake, by the kernel.
-/
import Derived.Test.YtbhdplicjiejnaaGreatDoorRdR
set_option linter.unusedSimpArgs false
set_option linter.unusedVariables false
namespace Go.Proofs.YtbhdplicjiejnaaGreatDoor
namespace X
open Go.RowKit B
set_option maxRecDepth 1000000
theorem awake_k : callBy Tryz.prog smI (ev Tryz.prog smI 1000000) 5 [] .lf 0 [] isTrue = true := by kernel_rfl
end X
end Go.Proofs.YtbhdplicjiejnaaGreatDoor
