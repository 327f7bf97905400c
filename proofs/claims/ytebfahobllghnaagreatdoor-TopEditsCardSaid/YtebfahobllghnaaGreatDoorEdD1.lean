/-
  TopEdits: RtF, RtXg.
-/
import Derived.Test.YtebfahobllghnaaGreatDoorEdC8
set_option linter.unusedSimpArgs false
set_option linter.unusedVariables false
namespace Go.Proofs.YtebfahobllghnaaGreatDoor
namespace X
open Go.RowKit B
set_option maxRecDepth 1000000
theorem set_n : knK smSe 27 rN kSetC = true := by kernel_rfl
theorem set_i : knK smSi 27 rN kSetI = true := by kernel_rfl
end X
end Go.Proofs.YtebfahobllghnaaGreatDoor
namespace Go.Proofs.YtebfahobllghnaaGreatDoor
namespace X
open Go.RowKit B
set_option maxRecDepth 1000000
def longY : SumF := fun args m nx pc K => match args with
  | [.i .i64 (.ofNat 80), .sv 2 (.mk 0 [(20000, 1)])] => match m.get 2 with
    | some (.cq 10000 10100) => K (.b true) m nx pc
    | _ => false
  | _ => false
def smA0 : SumT := withF 5 awT smZ
def smAw : SumT := withF 5 awT (withF 4 longY smZ)
def argsL : List SV := [.s [.a 39], nsW, gpW, txW, byW]
def lgA : PC := [ge (lenS [.a 39]) (.mk 61 [])]
def lgB : PC := [le' (lenS [.a 39]) 60, ge (lv 5998) (.mk 7 [])]
def lgC : PC := [le' (lenS [.a 39]) 60, le' (lv 5998) 6, ge (lv 5996) (.mk 9 [])]
def lgD : PC := [le' (lenS [.a 39]) 60, le' (lv 5998) 6, le' (lv 5996) 8]
noncomputable def lgK (p : PC) : Bool := mkK [] .lf fun m0 => go smA0 3 argsL m0 3 p fun v m _ _ => endW [] v m
noncomputable def lgK2 : Bool := mkK [(2, txK)] .lf fun m0 => go smAw 3 argsL m0 3 lgD fun v m _ _ => endW [(2, txK)] v m
theorem lg_a : lgK lgA = true := by kernel_rfl
theorem lg_b : lgK lgB = true := by kernel_rfl
theorem lg_c : lgK lgC = true := by kernel_rfl
theorem lg_d : lgK2 = true := by kernel_rfl
end X
end Go.Proofs.YtebfahobllghnaaGreatDoor
