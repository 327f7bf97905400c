/-
  TopDeep: what is told of the functions that the executor does not enter; the unknowns.
-/
import Derived.Test.YtjmnenjejgahjaaGreatDoorChecked
import Derived.Test.YtjmnenjejgahjaaGreatDoorW8
set_option linter.unusedSimpArgs false
set_option linter.unusedVariables false
namespace Go.Proofs.YtjmnenjejgahjaaGreatDoor
namespace X
open Go.RowKit B

def va (i : Nat) : Lin := .mk 0 [(i, 1)]
def I (n : Nat) : SV := .i .i64 (.ofNat n)
def smI : SumT := fun f => match Nat.beq f 80 with
  | true => some (sortedKeys [139, 299] 3)
  | false => none
/-- a call of Do: the memory ahead of it and behind it -/
structure Cd where
  nx0 : Nat
  a0 : List SV
  l0 : ML
  pc0 : PC
  v1 : SV
  l1 : ML
  nx1 : Nat
/-- c: string 0, at most 10 bytes; many: number 200 -/
def pcD : PC := [va 1, .mk 10 [(1, -1)]]
def argsD : List SV := [.x .i64 (va 200), .s [.a 0]]
def no0 (i : Nat) : Lin := .mk 0 [(i, -1)]
def is1 (i : Nat) : Lin := .mk (-1) [(i, 1)]
/-- is c one x? -/
def isX : Lin := .mk (-1) [(15367, 1)]
def notX : Lin := .mk 0 [(15367, -1)]
def factsT (n : Nat) : PC := [va 9, va 13, va 17, .mk (.negOfNat n) [(5, 1)], .mk (.negOfNat (2 * n + 1)) [(5, 1), (9, 1), (13, 1)], .mk (.ofNat (2 * n + 1)) [(5, -1), (9, -1), (13, -1)], .mk (.negOfNat (2 * n)) [(1, -1), (5, 1), (13, 1), (17, 1)], .mk (.ofNat (2 * n)) [(1, 1), (5, -1), (13, -1), (17, -1)]]
def L123 : Lin := .mk 0 [(5, 1), (9, 1), (13, 1)]
def isTrue (v : SV) (_ : Mem) (_ : Nat) (_ : PC) : Bool := match v with
  | .b true => true
  | _ => false
end X
end Go.Proofs.YtjmnenjejgahjaaGreatDoor
