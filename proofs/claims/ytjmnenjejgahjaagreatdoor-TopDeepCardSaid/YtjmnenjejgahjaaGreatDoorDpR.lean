/-
  TopDeep: what is told of editor.turn, tally.Of, Low, Do; which strings and numbers are one.
-/
import Derived.Test.YtjmnenjejgahjaaGreatDoorDpL
set_option linter.unusedSimpArgs false
set_option linter.unusedVariables false
namespace Go.Proofs.YtjmnenjejgahjaaGreatDoor
namespace X
open Go.RowKit B

def awakeS (args : List SV) (m : Mem) (nx : Nat) (pc : PC) (K : SV → Mem → Nat → PC → Bool) : Bool := match args with
  | [] => K (.b true) m nx pc
  | _ => false
/-- Low's answer: n -/
def lowS (n : Nat) (args : List SV) (m : Mem) (nx : Nat) (pc : PC) (K : SV → Mem → Nat → PC → Bool) : Bool := match args with
  | [.x .i64 (.mk 0 [(200, 1)]), .i .i64 (.ofNat 8)] => K (.i .i64 (.ofNat n)) m nx pc
  | _ => false
def rep : Nat → Nat → Str → Str
  | 0, _, l => l
  | n + 1, b, l => .c b :: rep n b l
/-- what was, what is -/
def wasS (n : Nat) : Str := rep n 40 (.c 120 :: rep n 41 [])
def nowS (n : Nat) : Str := rep n 40 (.a 0 :: rep n 41 [])
def rs0 : Rules := ⟨[], []⟩
/-- the text that was: strings 1, 2, 3 -/
def rsW (n : Nat) : Rules := ⟨[([], [.a 1, .a 2, .a 3], wasS n)], []⟩
/-- the text that is, however it was made; its tally: 30, 32, 34; its piece's priority: 36 -/
def rsT (n : Nat) : Rules := ⟨[([], nowS n, [.a 1, .a 4, .a 3]), ([no0 9], nowS n, [.a 1, .a 4, .a 2, .a 3]), ([no0 13], nowS n, [.a 1, .a 3, .a 4]), ([no0 9, no0 13], nowS n, [.a 1, .a 2, .a 3, .a 4]), ([no0 17], nowS n, [.a 1, .a 3]), ([no0 9, no0 17], nowS n, [.a 1, .a 2, .a 3]), ([isX], nowS n, wasS n)],
  [([no0 9, no0 17], va 36, .mk (.ofNat (p0N n)) []), ([is1 9, no0 17], va 36, .mk (.ofNat (p1N n)) []), ([no0 9, is1 17], va 36, .mk (.ofNat (p1N n)) []), ([is1 9, is1 17], va 36, .mk (.ofNat (p2N n)) []), ([isX], va 36, .mk (.ofNat (p0N n)) []),
   ([no0 9, no0 17], va 30, .mk 0 []), ([no0 9, no0 17], va 32, .mk (.ofNat (2 * n + 1)) []), ([no0 9, no0 17], va 34, .mk (.ofNat (2 * n + 1)) []), ([isX], va 30, .mk 0 []), ([isX], va 32, .mk (.ofNat (2 * n + 1)) []), ([isX], va 34, .mk (.ofNat (2 * n + 1)) []),
   ([no0 17], va 30, va 40), ([no0 17], va 32, va 42), ([no0 17], va 34, va 44)]⟩
/-- what was: 1 2 3; what is: 1 4 3; the piece of text that the rope has is told anew -/
def turnS (n : Nat) (args : List SV) (m : Mem) (nx : Nat) (pc : PC) (K : SV → Mem → Nat → PC → Bool) : Bool := match args with
  | [.s a, .s b] => match eqStr a (wasS n) && eqStr b (nowS n) with
    | true => match m.get (tagN n) with
      | some x => match sameB [] (Nat.succ (tagN n)) (rsW n) (factsT n ++ pc) (b1N n) x with
        | true => m.set (tagN n) (some (b1N n)) fun m => K (.ag [.x .i64 (va 5), .x .i64 (.mk 0 [(5, 1), (9, 1)]), .s [.a 4]]) m nx (factsT n ++ pc)
        | false => false
      | none => false
    | false => false
  | _ => false
def tallyV (l : Str) (v : Nat) : SV := .ag [.x .i64 (lenS l), .x .i64 (va v), .x .i64 (va (v + 2)), .x .i64 (va (v + 4))]
def tallyS (args : List SV) (m : Mem) (nx : Nat) (pc : PC) (K : SV → Mem → Nat → PC → Bool) : Bool := match args with
  | [.s l] => match proves pc notX && proves pc ((Lin.mk 1000 []).sub (lenS l)) with
    | true => match eqStr l [.a 1, .a 4, .a 3] || (eqStr l [.a 1, .a 3, .a 4] && allP pc [no0 13]) || (eqStr l [.a 1, .a 4, .a 2, .a 3] && allP pc [no0 9]) || (eqStr l [.a 1, .a 2, .a 3, .a 4] && allP pc [no0 9, no0 13]) with
      | true => K (tallyV l 30) m nx pc
      | false => match eqStr l [.a 1, .a 3] && allP pc [is1 9] with
        | true => K (tallyV l 40) m nx pc
        | false => false
    | false => false
  | _ => false
def smT (n : Nat) : SumT := fun f => match Nat.beq f 80 with
  | true => some (sortedKeys [139, 299] 3)
  | false => match Nat.beq f 64 with
    | true => some (turnS n)
    | false => match Nat.beq f 63 with
      | true => some (cutF rs0 (cS n).a0 (cS n).l0 (cS n).nx0 (cS n).pc0 (cS n).v1 (cS n).l1 (cS n).nx1 pcD)
      | false => none
/-- within the sheet's Do -/
def smS : SumT := fun f => match Nat.beq f 80 with
  | true => some (sortedKeys [139, 299] 3)
  | false => match Nat.beq f 250 with
    | true => some tallyS
    | false => none
def doL : List Cd → List SV → Mem → Nat → PC → (SV → Mem → Nat → PC → Bool) → Bool
  | [], _, _, _, _, _ => false
  | c :: l, args, m, nx, pc, K => match Nat.beq nx c.nx0 with
    | true => cutS rs0 c.a0 c.l0 c.nx0 c.pc0 c.v1 c.l1 c.nx1 [] args m nx pc K
    | false => doL l args m nx pc K
def smM (n : Nat) : SumT := fun f => match Nat.beq f 80 with
  | true => some (sortedKeys [139, 299] 3)
  | false => match Nat.beq f 4 with
    | true => some awakeS
    | false => match Nat.beq f 5 with
      | true => some (lowS (n - 1))
      | false => match Nat.beq f 7 with
        | true => some (doL (cutsN n))
        | false => none
noncomputable def ks (n : Nat) : Bool := mkK (cS n).l0 .lf fun m0 => callBy Tryz.prog smS (ev Tryz.prog smS 1000000) 63 (cS n).a0 m0 (cS n).nx0 (cS n).pc0 (cutEnd (rsT n) (cS n).nx0 (cS n).v1 (cS n).l1 (cS n).nx1 [])
noncomputable def kd (sm : SumT) (rs : Rules) (c : Cd) : Bool := mkK c.l0 .lf fun m0 => callBy Tryz.prog sm (ev Tryz.prog sm 1000000) 7 c.a0 m0 c.nx0 c.pc0 (cutEnd rs c.nx0 c.v1 c.l1 c.nx1 [])
end X
end Go.Proofs.YtjmnenjejgahjaaGreatDoor
