/-
  TopUnread by the kernel: a text that is too long, or with one of the three bytes, or with a break.
-/
import Derived.Test.YtbhdplicjiejnaaGreatDoorRdR
set_option linter.unusedSimpArgs false
set_option linter.unusedVariables false
namespace Go.Proofs.YtbhdplicjiejnaaGreatDoor
namespace X
open Go.RowKit B
set_option maxRecDepth 1000000
theorem k_x : topE smA yM [.mk (-41) [(25, 1)]] = true := by kernel_rfl
theorem k_s : topE smS yM pcS = true := by kernel_rfl
theorem k_l : topK smL yL yM pcL = true := by kernel_rfl
end X
end Go.Proofs.YtbhdplicjiejnaaGreatDoor
