/-
  TopUnread: where the loops' tails begin, and how they are told (whatever the program's numbers).
-/
import Derived.Test.YtbhdplicjiejnaaGreatDoorWa
set_option linter.unusedSimpArgs false
set_option linter.unusedVariables false
namespace Go.Proofs.YtbhdplicjiejnaaGreatDoor
namespace X
open Go.RowKit B

/-- the first loop of code, and what stands about it -/
def splitC : Code → Option (Ctx × Nat × Code)
  | .block b (.loop body) => some (.hole, b, body)
  | .seq c k => match splitC c with
    | some (t, r) => some (.l t k, r)
    | none => match splitC k with
      | some (t, r) => some (.r c t, r)
      | none => none
  | _ => none
def ctxOf (c : Code) : Ctx := match splitC c with
  | some r => r.1
  | none => .hole
def loopOf (c : Code) : Code := match splitC c with
  | some r => r.2.2
  | none => .skip
def idOf (c : Code) : Nat := match splitC c with
  | some r => r.2.1
  | none => 0
def bodyOf (c : Option Code) : Code := match c with
  | some c => c
  | none => .skip
/-- k bytes and the others -/
def dropS : Str → Nat → Option (Str × Str)
  | l, 0 => some ([], l)
  | .c a :: l, n + 1 => match dropS l n with
    | some (p, r) => some (.c a :: p, r)
    | none => none
  | _, _ => none
/-- what stands behind y -/
def behind : Str → Str → Option Str
  | l, [] => some l
  | a :: l, b :: m => match eqP a b with
    | true => behind l m
    | false => none
  | [], _ :: _ => none
/-- a string, and where in it: what is ahead, what is behind the part that is gone through -/
def findY (Y S : Str) (k : Nat) : Option (Str × Str) := match dropS S k with
  | some (p, r) => match behind r Y with
    | some q => some (p, q)
    | none => none
  | none => none
def appL {α : Type} : List α → List α → List α
  | [], m => m
  | a :: l, m => a :: appL l m
/-- the string, in the words of a round -/
def midS (p q : Str) : Str := appL p (.a 0 :: .a 1 :: .a 2 :: q)
def atK (k : Nat) : SV := .x .i64 (.mk (.ofNat k) [(1, 1)])
def nilP : PC := [.mk 0 [(13, -1)]]
def txtP : PC := [.mk (-1) [(13, 1)]]
def tailFrom (c : Cc) (nx : Nat) (T : TS) (Ts : List TS) : Trg := .tail c T Ts (Nat.add nx 100)
/-- states of bytes in a slot: none; unknown ones -/
def txtT (e : Nat) (nx k : Nat) (s : SL) (l : ML) (v : SV) (many : Nat) (m : Mem) (c : Cc) : Trg := match v with
  | .ns => tailFrom c nx ⟨(k, .ns) :: s, l, nilP, Nat.add nx many⟩ [⟨(k, .sb nx [.a 3]) :: s, (nx, .bt e [.a 3]) :: l, txtP, Nat.add nx many⟩]
  | .sl g 0 _ (.q 1) => .view g [k] []
  | .sb g u => tailFrom c nx ⟨(k, .sb nx (appL u [.a 3])) :: s, (nx, .bt e (appL u [.a 3])) :: l, [], Nat.add nx many⟩ []
  | _ => .step
/-- guard: slots 0 s, 3 b, 4 i -/
def guardTrig (e : Nat) (c : Cc) : Trig := fun s m nx => match s.get 0, s.get 3, s.get 4 with
  | some (.s S), some v, some (.i .i64 (.ofNat k)) => match findY c.Y S k with
    | some (p, q) => txtT e nx 3 [(0, .s (midS p q)), (4, atK k)] [] v 1 m c
    | none => .step
  | _, _, _ => .step
/-- the statement's own loop: slots 0 s, 1 which, 5 i -/
def ownTrig (c : Cc) : Trig := fun s m nx => match s.get 0, s.get 1, s.get 5 with
  | some (.s S), some v, some (.i .i64 (.ofNat k)) => match findY c.Y S k with
    | some (p, q) => tailFrom c nx ⟨[(0, .s (midS p q)), (1, v), (5, atK k)], [], [], nx⟩ []
    | none => .step
  | _, _, _ => .step
/-- parts: slots 0 r, 1 inside, 6 out, 7 text -/
def partsTrig (e : Nat) (c : Cc) : Trig := fun s m nx => match s.get 0, s.get 1, s.get 6, s.get 7 with
  | some (.p r 0), some ins, some out, some v => match m.get r with
    | some (.ce ty [.s S, .i .i64 (.ofNat k), kv] ex) => match findY c.Y S k with
      | some (p, q) => txtT e nx 7 [(0, .p r 0), (1, ins), (6, out)] [(r, .ce ty [.s (midS p q), atK k, kv] ex)] v 1 m c
      | none => .step
    | _ => .step
  | _, _, _, _ => .step
/-- options: slots 0 r, 4 opts, 5 text -/
def optsTrig (e eS : Nat) (c : Cc) : Trig := fun s m nx => match s.get 0, s.get 4, s.get 5 with
  | some (.p r 0), some o, some v => match m.get r with
    | some (.ce ty [.s S, .i .i64 (.ofNat k), kv] ex) => match findY c.Y S k with
      | some (p, q) => (match o with
        | .sl g 0 _ (.q 1) => .view g [4] []
        | .sb g u => txtT e nx 5 [(0, .p r 0), (4, .sb (Nat.succ nx) (appL u [.a 4]))] [(r, .ce ty [.s (midS p q), atK k, kv] ex), (Nat.succ nx, .ob eS (appL u [.a 4]))] v 2 m c
        | _ => .step)
      | none => .step
    | _ => .step
  | _, _, _ => .step
def ptrOf : List SV → Option Nat
  | .p b 0 :: _ => some b
  | _ :: l => ptrOf l
  | [] => none
/-- each: slots 0 s, 1 lead, 2 unit, 3 lay, 8 fresh, 9 i -/
def eachTrig (e : Nat) (c : Cc) : Trig := fun s m nx => match s.get 0, s.get 9 with
  | some (.s S), some (.i .i64 (.ofNat k)) => match findY c.Y S k with
    | some (p, q) => match s.get 1, s.get 2, s.get 3, s.get 8 with
      | some v1, some v2, some (.fn f fi ca), some v8 => match ptrOf (appL fi ca) with
        | some b => (match m.get b with
          | some (.ce ty [.i .i64 (.ofNat n)] ex) => tailFrom c nx ⟨[(0, .s (midS p q)), (1, v1), (2, v2), (3, .fn f fi ca), (8, v8), (9, atK k)], [(b, .ce ty [atK n] ex)], [], nx⟩ []
          | some (.ce ty [pb, .sl g 0 _ (.q 1)] ex) => .view g [] [b]
          | some (.ce ty [pb, .sb g u] ex) => tailFrom c nx ⟨[(0, .s (midS p q)), (1, v1), (2, v2), (3, .fn f fi ca), (8, v8), (9, atK k)], [(b, .ce ty [pb, .sb nx (appL u [.a 3])] ex), (nx, .bt e (appL u [.a 3]))], [], Nat.succ nx⟩ []
          | _ => .step)
        | none => .step
      | _, _, _, _ => .step
    | none => .step
  | _, _ => .step
/-! facts on a byte -/
def isB (n : Nat) : Lin := .mk (-1) [(Nat.add (Nat.mul 8 (Nat.add 1 (Nat.mul 16 n))) 7, 1)]
def noB (n : Nat) : Lin := .mk 0 [(Nat.add (Nat.mul 8 (Nat.add 1 (Nat.mul 16 n))) 7, -1)]
/-- the byte's number is n -/
def bvE (n : Nat) : PC := [.mk (.negOfNat n) [(64011, 1)], .mk (.ofNat n) [(64011, -1)]]
/-- lengths: 0, 2, 3, 4 not negative, 1 one byte, place 500 nought; all together 40 at most -/
def oneP (more : PC) : PC := .mk 0 [(1, 1)] :: .mk (-1) [(5, 1)] :: .mk 1 [(5, -1)] :: .mk 0 [(9, 1)] :: .mk 0 [(13, 1)] :: .mk 0 [(17, 1)] :: .mk 0 [(1000, 1)] :: .mk 0 [(1000, -1)] :: .mk 40 [(1, -1), (5, -1), (9, -1)] :: .mk 80 [(13, -1)] :: .mk 40 [(17, -1)] :: more
def shT : Sh := ⟨[.a 3, .a 1], [.a 4], []⟩
def sh0 : Sh := ⟨[], [], []⟩
def shE : Sh := ⟨[.a 3, .c 92, .a 1], [.a 4], []⟩
def shC : Sh := ⟨[], [.a 4, .c 0], []⟩
def noBs : PC := [noB 36, noB 125, noB 92]
/-- of strings 7, 8 -/
def ple : PC := [.mk 0 [(33, 1)], .mk 0 [(29, 1)], .mk 40 [(33, -1)], .mk 1 [(29, -1)]]
def ccN (Y : Str) (vk : List Nat) (cl : PC) : Cc := ⟨Y, oneP ple, [(cl, shT)], sh0, ⟨Y, [], []⟩, vk⟩
/-- guard, where there is one of them -/
def ccS : Cc := ⟨[.a 6], oneP ple, [(noBs, shT), (bvE 36, shE), (bvE 125, shE), (bvE 92, shE)], sh0, ⟨[.a 9], [], []⟩, [3]⟩
/-- options -/
def ccQ : Cc := ⟨[.a 6], oneP ple, [(noB 36 :: noB 125 :: noB 92 :: noB 124 :: isB 44 :: [], shC), (noB 36 :: noB 125 :: noB 92 :: noB 124 :: noB 44 :: [], shT)], sh0, ⟨[.a 9], [.a 10], []⟩, [5]⟩
abbrev SumF := List SV → Mem → Nat → PC → (SV → Mem → Nat → PC → Bool) → Bool
def withF (f : Nat) (g : SumF) (sm : SumT) : SumT := fun x => match Nat.beq x f with
  | true => some g
  | false => sm x
def callF (P : Program) (sm : SumT) (f : Nat) (c : Code) (trig : Trig) : SumF := fun args m nx pc K =>
  callH P sm 1000000 200 f (ctxOf c) (idOf c) (loopOf c) trig args m nx pc K
def va (i : Nat) : Lin := .mk 0 [(i, 1)]
def isTrue (v : SV) (_ : Mem) (_ : Nat) (_ : PC) : Bool := match v with
  | .b true => true
  | _ => false
/-- facts: strings 7 (one byte, no brace), 8, 9, 10; and others -/
def pcU (more : PC) : PC := .mk 0 [(25, 1)] :: .mk 0 [(33, 1)] :: .mk 0 [(37, 1)] :: .mk 0 [(41, 1)] :: .mk 80 [(37, -1)] :: .mk 40 [(41, -1)] :: .mk (-1) [(29, 1)] :: .mk 1 [(29, -1)] :: .mk 0 [(16063, -1)] :: .mk 0 [(1000, 1)] :: .mk 0 [(1000, -1)] :: more
/-- no bar; a bar at the end; a bar and more; a break -/
def pcN : PC := pcU [.mk (-1) [(25, 1)], .mk 40 [(25, -1)]]
def pcB : PC := pcU [.mk 39 [(25, -1)]]
def pcC : PC := pcU [.mk 38 [(25, -1), (33, -1)]]
def pcL : PC := pcU [.mk 39 [(25, -1), (33, -1)]]
def pcS : PC := pcU [.mk (-1) [(37, 1), (25, -1)], .mk 40 [(25, -1)]]
def yM : Str := [.a 6]
def yB : Str := [.a 6, .c 124]
def yC : Str := [.a 6, .c 124, .a 7, .a 8]
def yL : Str := [.a 6, .c 10, .a 8]
def argsU (Y : Str) : List SV := [.s Y, .x .i64 (va 200)]
end X
end Go.Proofs.YtbhdplicjiejnaaGreatDoor
