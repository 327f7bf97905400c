/-
  TopOverlap: what is told of the functions that the executor does not enter.
-/
import Derived.Test.YtppdehodcoffbaaGreatDoorChecked
import Derived.Test.YtppdehodcoffbaaGreatDoorVW
set_option linter.unusedSimpArgs false
set_option linter.unusedVariables false
namespace Go.Proofs.YtppdehodcoffbaaGreatDoor
namespace X
open Go.RowKit B

def va (i : Nat) : Lin := .mk 0 [(i, 1)]
def sm0 : SumT := fun f => match Nat.beq f 76 with
  | true => some (sortedKeys [130, 287] 3)
  | false => none
def awakeS (args : List SV) (m : Mem) (nx : Nat) (pc : PC) (K : SV → Mem → Nat → PC → Bool) : Bool := match args with
  | [] => K (.b true) m nx pc
  | _ => false
/-- at: number 6; one, two: 8, 10; what Low hands back: 0, 2, 4; the text's length: 1 -/
def lowS (args : List SV) (m : Mem) (nx : Nat) (pc : PC) (K : SV → Mem → Nat → PC → Bool) : Bool := match args with
  | [.x .i64 (.mk 0 [(6, 1)]), .x .i64 (.mk (-2) [(1, 1)])] => match proves pc (.mk (-3) [(1, 1)]) && proves pc (.mk 1000 [(1, -1)]) with
    | true => K (.x .i64 (va 0)) m nx (va 0 :: .mk (-3) [(0, -1), (1, 1)] :: pc)
    | false => false
  | [.x .i64 (.mk 0 [(8, 1)]), .i .i64 (.ofNat 2)] => K (.x .i64 (va 2)) m nx (va 2 :: .mk 1 [(2, -1)] :: pc)
  | [.x .i64 (.mk 0 [(10, 1)]), .i .i64 (.ofNat 2)] => K (.x .i64 (va 4)) m nx (va 4 :: .mk 1 [(4, -1)] :: pc)
  | _ => false
def tallyS (args : List SV) (m : Mem) (nx : Nat) (pc : PC) (K : SV → Mem → Nat → PC → Bool) : Bool := match args with
  | [.s [.a 0]] => match proves pc (.mk 1000 [(1, -1)]) with
    | true => K (.ag [.x .i64 (va 1), .x .i64 (va 12), .x .i64 (va 14), .x .i64 (va 16)]) m nx pc
    | false => false
  | _ => false
def smO : SumT := fun f => match f with
  | 76 => some (sortedKeys [130, 287] 3)
  | 4 => some awakeS
  | 7 => some lowS
  | 235 => some tallyS
  | _ => none
def isTrue (v : SV) (_ : Mem) (_ : Nat) (_ : PC) : Bool := match v with
  | .b true => true
  | _ => false
def argsO (out : Bool) : List SV := [.s [.a 0], .x .i64 (va 6), .x .i64 (va 8), .x .i64 (va 10), .b out, .s [.a 1]]
end X
end Go.Proofs.YtppdehodcoffbaaGreatDoor
