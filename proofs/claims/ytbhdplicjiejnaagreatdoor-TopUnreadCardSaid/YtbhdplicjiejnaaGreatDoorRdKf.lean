/-
  TopUnread by the kernel: what is inserted, n3.
-/
import Derived.Test.YtbhdplicjiejnaaGreatDoorRdR
set_option linter.unusedSimpArgs false
set_option linter.unusedVariables false
namespace Go.Proofs.YtbhdplicjiejnaaGreatDoor
namespace X
open Go.RowKit B
set_option maxRecDepth 1000000
theorem k_n3 : topK (smG 3 yM pcN) yM yM pcN = true := by kernel_rfl
end X
end Go.Proofs.YtbhdplicjiejnaaGreatDoor
