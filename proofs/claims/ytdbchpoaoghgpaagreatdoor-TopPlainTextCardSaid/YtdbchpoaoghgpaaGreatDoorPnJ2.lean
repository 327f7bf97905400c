/-
  Closed facts of the row, by the kernel.
-/
import Derived.Test.YtdbchpoaoghgpaaGreatDoorRows
import Derived.JoinedOf
set_option linter.unusedSimpArgs false
set_option linter.unusedVariables false
namespace Go.Proofs.YtdbchpoaoghgpaaGreatDoor
namespace X
theorem j_place : (Rows.topPlainTextRow.inPlace == Tryz.prog.inPlace 3) = true := by kernel_rfl
theorem j_unf : (Rows.topPlainTextRow.unfollowed == Tryz.prog.unfollowed 3) = true := by kernel_rfl
end X
end Go.Proofs.YtdbchpoaoghgpaaGreatDoor
