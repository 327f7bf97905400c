/-
  Closed facts of the row, by the kernel.
-/
import Derived.Test.YtbhdplicjiejnaaGreatDoorRows
import Derived.JoinedOf
set_option linter.unusedSimpArgs false
set_option linter.unusedVariables false
namespace Go.Proofs.YtbhdplicjiejnaaGreatDoor
namespace X
theorem j_place : (Rows.topUnreadRow.inPlace == Tryz.prog.inPlace 3) = true := by kernel_rfl
theorem j_unf : (Rows.topUnreadRow.unfollowed == Tryz.prog.unfollowed 3) = true := by kernel_rfl
end X
end Go.Proofs.YtbhdplicjiejnaaGreatDoor
