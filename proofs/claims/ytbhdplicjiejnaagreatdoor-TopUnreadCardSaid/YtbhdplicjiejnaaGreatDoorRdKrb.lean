/-
  TopUnread by the kernel: what is read, n1.
-/
import Derived.Test.YtbhdplicjiejnaaGreatDoorRdR
set_option linter.unusedSimpArgs false
set_option linter.unusedVariables false
namespace Go.Proofs.YtbhdplicjiejnaaGreatDoor
namespace X
open Go.RowKit B
set_option maxRecDepth 1000000
theorem r_n1 : readK 1 yM pcN = true := by kernel_rfl
end X
end Go.Proofs.YtbhdplicjiejnaaGreatDoor
