/-
  done by the kernel.
-/
import Derived.Test.YtdbchpoaoghgpaaGreatDoorP5
set_option linter.unusedSimpArgs false
set_option linter.unusedVariables false
namespace Go.Proofs.YtdbchpoaoghgpaaGreatDoor
namespace X
open Go.RowKit B
set_option maxRecDepth 1000000
theorem dnIt_1 : dnIK 1 true = true := by kernel_rfl
theorem dnIt_2 : dnIK 2 true = true := by kernel_rfl
theorem dnIt_3 : dnIK 3 true = true := by kernel_rfl
theorem dnIt_4 : dnIK 4 true = true := by kernel_rfl
theorem dnIt_5 : dnIK 5 true = true := by kernel_rfl
theorem dnIt_6 : dnIK 6 true = true := by kernel_rfl
theorem dnTt_1 : dnTK 1 true = true := by kernel_rfl
theorem dnTt_2 : dnTK 2 true = true := by kernel_rfl
theorem dnTt_3 : dnTK 3 true = true := by kernel_rfl
theorem dnTt_4 : dnTK 4 true = true := by kernel_rfl
theorem dnTt_5 : dnTK 5 true = true := by kernel_rfl
theorem dnTt_6 : dnTK 6 true = true := by kernel_rfl
theorem dnIf_1 : dnIK 1 false = true := by kernel_rfl
theorem dnIf_2 : dnIK 2 false = true := by kernel_rfl
theorem dnIf_3 : dnIK 3 false = true := by kernel_rfl
theorem dnIf_4 : dnIK 4 false = true := by kernel_rfl
theorem dnIf_5 : dnIK 5 false = true := by kernel_rfl
theorem dnIf_6 : dnIK 6 false = true := by kernel_rfl
theorem dnTf_1 : dnTK 1 false = true := by kernel_rfl
theorem dnTf_2 : dnTK 2 false = true := by kernel_rfl
theorem dnTf_3 : dnTK 3 false = true := by kernel_rfl
theorem dnTf_4 : dnTK 4 false = true := by kernel_rfl
theorem dnTf_5 : dnTK 5 false = true := by kernel_rfl
theorem dnTf_6 : dnTK 6 false = true := by kernel_rfl
end X
end Go.Proofs.YtdbchpoaoghgpaaGreatDoor

set_option linter.unusedSimpArgs false
set_option linter.unusedVariables false
namespace Go.Proofs.YtdbchpoaoghgpaaGreatDoor
namespace X
open Go.RowKit B
set_option maxRecDepth 1000000
theorem clA_1 : clK 1 5010 = true := by kernel_rfl
theorem clA_2 : clK 2 5010 = true := by kernel_rfl
theorem clA_3 : clK 3 5010 = true := by kernel_rfl
theorem clA_4 : clK 4 5010 = true := by kernel_rfl
theorem clA_5 : clK 5 5010 = true := by kernel_rfl
theorem clA_6 : clK 6 5010 = true := by kernel_rfl
theorem clB_1 : clK 1 5030 = true := by kernel_rfl
theorem clB_2 : clK 2 5030 = true := by kernel_rfl
theorem clB_3 : clK 3 5030 = true := by kernel_rfl
theorem clB_4 : clK 4 5030 = true := by kernel_rfl
theorem clB_5 : clK 5 5030 = true := by kernel_rfl
theorem clB_6 : clK 6 5030 = true := by kernel_rfl
theorem eqq_1 : eqK 1 = true := by kernel_rfl
theorem eqq_2 : eqK 2 = true := by kernel_rfl
theorem eqq_3 : eqK 3 = true := by kernel_rfl
theorem eqq_4 : eqK 4 = true := by kernel_rfl
theorem eqq_5 : eqK 5 = true := by kernel_rfl
theorem eqq_6 : eqK 6 = true := by kernel_rfl
theorem nxf_1 : nxK false 1 = true := by kernel_rfl
theorem nxf_2 : nxK false 2 = true := by kernel_rfl
theorem nxf_3 : nxK false 3 = true := by kernel_rfl
theorem nxf_4 : nxK false 4 = true := by kernel_rfl
theorem nxf_5 : nxK false 5 = true := by kernel_rfl
theorem nxf_6 : nxK false 6 = true := by kernel_rfl
theorem nxt_1 : nxK true 1 = true := by kernel_rfl
theorem mvv_k : mvvK = true := by kernel_rfl
theorem rd0_k : rd0K = true := by kernel_rfl
end X
end Go.Proofs.YtdbchpoaoghgpaaGreatDoor
