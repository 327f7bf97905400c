/-
  Closed facts of the row, by the kernel.
-/
import Derived.Test.YtdbchpoaoghgpaaGreatDoorRows
import Derived.JoinedOf
set_option linter.unusedSimpArgs false
set_option linter.unusedVariables false
namespace Go.Proofs.YtdbchpoaoghgpaaGreatDoor
namespace X
theorem j_rec : (Rows.topPlainTextRow.recurses == Tryz.prog.recurses 3) = true := by kernel_rfl
theorem j_named : (Rows.topPlainTextRow.named == Tryz.prog.varsNamed 3) = true := by kernel_rfl
end X
end Go.Proofs.YtdbchpoaoghgpaaGreatDoor
