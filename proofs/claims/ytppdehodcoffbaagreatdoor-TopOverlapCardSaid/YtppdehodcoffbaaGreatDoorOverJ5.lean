/-
  Closed facts of the row, by the kernel.
-/
import Derived.Test.YtppdehodcoffbaaGreatDoorRows
import Derived.JoinedOf
import GoSem.ClaimSeven
import Derived.SevenTiedAt
set_option linter.unusedSimpArgs false
set_option linter.unusedVariables false
namespace Go.Proofs.YtppdehodcoffbaaGreatDoor
namespace X
theorem j_goes : (Rows.topOverlapRow.goesBy Tryz.prog) = false := by kernel_rfl
end X
end Go.Proofs.YtppdehodcoffbaaGreatDoor
