/-
  TopEdits: RtJ3.
-/
import Derived.Test.YtebfahobllghnaaGreatDoorRows
import Derived.JoinedOf
set_option linter.unusedSimpArgs false
set_option linter.unusedVariables false
namespace Go.Proofs.YtebfahobllghnaaGreatDoor
namespace X
theorem j_rec : (Rows.topEditsRow.recurses == Tryz.prog.recurses 3) = true := by kernel_rfl
theorem j_named : (Rows.topEditsRow.named == Tryz.prog.varsNamed 3) = true := by kernel_rfl
end X
end Go.Proofs.YtebfahobllghnaaGreatDoor
