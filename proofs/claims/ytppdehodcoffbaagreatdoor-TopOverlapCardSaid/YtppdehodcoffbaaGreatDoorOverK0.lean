import Derived.Test.YtppdehodcoffbaaGreatDoorOverA
set_option linter.unusedSimpArgs false
set_option linter.unusedVariables false
namespace Go.Proofs.YtppdehodcoffbaaGreatDoor
namespace X
open Go.RowKit B
set_option maxRecDepth 1000000
theorem top_f : callBy Tryz.prog smO (ev Tryz.prog smO 1000000) 3 (argsO false) .lf 0 [va 1, va 5] isTrue = true := by kernel_rfl
end X
end Go.Proofs.YtppdehodcoffbaaGreatDoor
