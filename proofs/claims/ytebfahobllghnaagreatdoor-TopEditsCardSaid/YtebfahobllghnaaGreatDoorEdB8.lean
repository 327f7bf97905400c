/-
  TopEdits: PnK, PnK5, PnK6.
-/
import Derived.Test.YtebfahobllghnaaGreatDoorEdB1
set_option linter.unusedSimpArgs false
set_option linter.unusedVariables false
namespace Go.Proofs.YtebfahobllghnaaGreatDoor
namespace X
open Go.RowKit B
set_option maxRecDepth 1000000
theorem norm_1 : normK 1 = true := by kernel_rfl
theorem norm_2 : normK 2 = true := by kernel_rfl
theorem norm_3 : normK 3 = true := by kernel_rfl
theorem norm_4 : normK 4 = true := by kernel_rfl
end X
end Go.Proofs.YtebfahobllghnaaGreatDoor
namespace Go.Proofs.YtebfahobllghnaaGreatDoor
namespace X
open Go.RowKit B
set_option maxRecDepth 1000000
theorem norm_5 : normK 5 = true := by kernel_rfl
end X
end Go.Proofs.YtebfahobllghnaaGreatDoor
namespace Go.Proofs.YtebfahobllghnaaGreatDoor
namespace X
open Go.RowKit B
set_option maxRecDepth 1000000
theorem norm_6 : normK 6 = true := by kernel_rfl
end X
end Go.Proofs.YtebfahobllghnaaGreatDoor
