/-
  TopUnread: what is told of the functions that are not entered, and of those with loops.
-/
import Derived.Test.YtbhdplicjiejnaaGreatDoorRdC
set_option linter.unusedSimpArgs false
set_option linter.unusedVariables false
namespace Go.Proofs.YtbhdplicjiejnaaGreatDoor
namespace X
open Go.RowKit B

def smI : SumT := fun f => match Nat.beq f 73 with
  | true => some (sortedKeys [127, 286] 3)
  | false => none
def awakeS (args : List SV) (m : Mem) (nx : Nat) (pc : PC) (K : SV → Mem → Nat → PC → Bool) : Bool := match args with
  | [] => K (.b true) m nx pc
  | _ => false
/-- Low's answer: k -/
def lowS (k : Nat) (args : List SV) (m : Mem) (nx : Nat) (pc : PC) (K : SV → Mem → Nat → PC → Bool) : Bool := match args with
  | [.x .i64 (.mk 0 [(200, 1)]), .i .i64 (.ofNat 5)] => K (.i .i64 (.ofNat k)) m nx pc
  | _ => false
def tallyV (l : Str) (v : Nat) : SV := .ag [.x .i64 (lenS l), .x .i64 (va v), .x .i64 (va (v + 2)), .x .i64 (va (v + 4))]
noncomputable def tallyS (txt : Str) (args : List SV) (m : Mem) (nx : Nat) (pc : PC) (K : SV → Mem → Nat → PC → Bool) : Bool := match args with
  | [.s l] => match eqStr l txt with
    | true => K (tallyV l 100) m nx pc
    | false => callBy Tryz.prog smI (ev Tryz.prog smI 1000000) 232 args m nx pc K
  | _ => false
noncomputable def cTop : Code := bodyOf Tryz.f3.body
noncomputable def cGuard : Code := bodyOf Tryz.f4.body
noncomputable def cParts : Code := bodyOf Tryz.f94.body
noncomputable def cOpts : Code := bodyOf Tryz.f318.body
noncomputable def cEach : Code := bodyOf Tryz.f326.body
/-- what begins as a stop and does not end -/
def headS : Nat → Str
  | 0 => [.c 36, .c 123, .c 49, .c 58]
  | 1 => [.c 36, .c 123, .c 110, .c 58]
  | 2 => [.c 36, .c 123, .c 49, .c 124, .c 97, .c 44]
  | 3 => [.c 36, .c 123, .c 49, .c 58, .c 36, .c 123, .c 50, .c 58]
  | _ => [.c 97, .c 36, .c 123, .c 32]
noncomputable def smB (k : Nat) (txt : Str) : SumT := fun f => match Nat.beq f 73 with
  | true => some (sortedKeys [127, 286] 3)
  | false => match Nat.beq f 5 with
    | true => some awakeS
    | false => match Nat.beq f 6 with
      | true => some (lowS k)
      | false => match Nat.beq f 232 with
        | true => some (tallyS txt)
        | false => none
noncomputable def smE (k : Nat) (Y : Str) : SumT := withF 326 (callF Tryz.prog (smB k (appL (headS k) Y)) 326 cEach (eachTrig 5 (ccN Y [] [noB 10]))) (smB k (appL (headS k) Y))
noncomputable def smQ (k : Nat) (Y : Str) : SumT := match Nat.beq k 2 with
  | true => withF 318 (callF Tryz.prog (smE k Y) 318 cOpts (optsTrig 5 9 ccQ)) (smE k Y)
  | false => smE k Y
noncomputable def smP : Nat → Nat → Str → SumT
  | 0, k, Y => smQ k Y
  | n + 1, k, Y => withF 94 (callF Tryz.prog (smP n k Y) 94 cParts (partsTrig 5 (ccN Y [7] noBs))) (smQ k Y)
noncomputable def grd (c : Cc) : SumF := callF Tryz.prog smI 4 cGuard (guardTrig 5 c)
/-- what sread.Read hands back: one text -/
def readV : SV := .tu [.sl 221 0 1 (.q 18), .i .i64 (.ofNat 0)]
def O : SV := .i .i64 (.ofNat 0)
def readL (txt : Str) : ML := [(221, .ce 262 [O, .s txt, O, .b false, .b false, O, .s [], .b false, .ns, O, O, .b false, .ns, .ns, .b false, .b false, .ns, .ns] false)]
noncomputable def readK (k : Nat) (Y : Str) (pc : PC) : Bool := mkK [] .lf fun m0 => callBy Tryz.prog (smP 3 k Y) (ev Tryz.prog (smP 3 k Y) 1000000) 53 [.s (appL (headS k) Y)] m0 221 pc (cutEnd r0 221 readV (readL (appL (headS k) Y)) 600 [])
noncomputable def smG (k : Nat) (Y : Str) (pc : PC) : SumT := withF 4 (grd (ccN Y [3] noBs)) (withF 53 (cutF r0 [.s (appL (headS k) Y)] [] 221 pc readV (readL (appL (headS k) Y)) 600 pc) (smE k Y))
def smA : SumT := fun f => match Nat.beq f 5 with
  | true => some awakeS
  | false => none
/-- one of $ brace \ in it -/
noncomputable def smS : SumT := withF 4 (grd ccS) smA
/-- a break in it -/
noncomputable def smL : SumT := withF 4 (grd (ccN yL [3] noBs)) smA
noncomputable def topK (sm : SumT) (Y Y0 : Str) (pc : PC) : Bool := callF Tryz.prog sm 3 cTop (ownTrig (ccN Y0 [] [noB 10])) (argsU Y) .lf 0 pc isTrue
/-- none of its loops is gone through at once -/
noncomputable def topE (sm : SumT) (Y : Str) (pc : PC) : Bool := callBy Tryz.prog sm (ev Tryz.prog sm 1000000) 3 (argsU Y) .lf 0 pc isTrue
end X
end Go.Proofs.YtbhdplicjiejnaaGreatDoor
