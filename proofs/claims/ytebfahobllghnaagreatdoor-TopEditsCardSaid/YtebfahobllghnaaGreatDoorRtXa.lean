/-
  TopEdits: RtXa.
-/
import Derived.Test.YtebfahobllghnaaGreatDoorEdC8
import Derived.Test.YtebfahobllghnaaGreatDoorEdB7
set_option linter.unusedSimpArgs false
set_option linter.unusedVariables false
namespace Go.Proofs.YtebfahobllghnaaGreatDoor
namespace X
open Go.RowKit B
set_option maxRecDepth 1000000
noncomputable def awK : Bool := go (withF 78 (sortedKeys [132, 289] 3) smZ) 5 [] .lf 0 [] fun v _ _ _ => isTr v
theorem aw_k : awK = true := by kernel_rfl
end X
end Go.Proofs.YtebfahobllghnaaGreatDoor
