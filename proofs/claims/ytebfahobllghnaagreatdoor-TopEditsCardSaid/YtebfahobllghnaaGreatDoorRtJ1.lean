/-
  TopEdits: RtJ1.
-/
import Derived.Test.YtebfahobllghnaaGreatDoorRows
import Derived.JoinedOf
set_option linter.unusedSimpArgs false
set_option linter.unusedVariables false
namespace Go.Proofs.YtebfahobllghnaaGreatDoor
namespace X
theorem j_laid : (laidOutB Tryz.prog) = true := by kernel_rfl
theorem j_maps : (mapsRowed Tryz.prog) = true := by kernel_rfl
theorem j_keys : (Rows.topEditsRow.plainKeys == Tryz.prog.plainKeys) = true := by kernel_rfl
theorem j_heard : (Tryz.prog.stopsHeard) = true := by kernel_rfl
theorem j_enter : (Tryz.prog.mayEnter) = true := by kernel_rfl
end X
end Go.Proofs.YtebfahobllghnaaGreatDoor
