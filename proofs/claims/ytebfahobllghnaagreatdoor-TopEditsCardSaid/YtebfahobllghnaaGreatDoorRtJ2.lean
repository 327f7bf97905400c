/-
  TopEdits: RtJ2.
-/
import Derived.Test.YtebfahobllghnaaGreatDoorRows
import Derived.JoinedOf
set_option linter.unusedSimpArgs false
set_option linter.unusedVariables false
namespace Go.Proofs.YtebfahobllghnaaGreatDoor
namespace X
theorem j_place : (Rows.topEditsRow.inPlace == Tryz.prog.inPlace 3) = true := by kernel_rfl
theorem j_unf : (Rows.topEditsRow.unfollowed == Tryz.prog.unfollowed 3) = true := by kernel_rfl
end X
end Go.Proofs.YtebfahobllghnaaGreatDoor
