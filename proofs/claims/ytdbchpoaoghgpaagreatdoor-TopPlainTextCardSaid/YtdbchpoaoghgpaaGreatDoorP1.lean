/-
  Where the loops' tails begin, and how they are told (whatever the program's numbers).
-/
import Derived.Test.YtdbchpoaoghgpaaGreatDoorWa
import Derived.Test.YtdbchpoaoghgpaaGreatDoorChecked
import Derived.Test.YtdbchpoaoghgpaaGreatDoorBa
set_option linter.unusedSimpArgs false
set_option linter.unusedVariables false
namespace Go.Proofs.YtdbchpoaoghgpaaGreatDoor
namespace X
open Go.RowKit B

def bodyOf (c : Option Code) : Code := match c with
  | some c => c
  | none => .skip
/-- k bytes and the others -/
def dropS : Str → Nat → Option (Str × Str)
  | l, 0 => some ([], l)
  | .c a :: l, n + 1 => match dropS l n with
    | some (p, r) => some (.c a :: p, r)
    | none => none
  | _, _ => none
/-- what stands behind y -/
def behind : Str → Str → Option Str
  | l, [] => some l
  | a :: l, b :: m => match eqP a b with
    | true => behind l m
    | false => none
  | [], _ :: _ => none
/-- a string, and where in it: what is ahead, what is behind the part that is gone through -/
def findY (Y S : Str) (k : Nat) : Option (Str × Str) := match dropS S k with
  | some (p, r) => match behind r Y with
    | some q => some (p, q)
    | none => none
  | none => none
def appL {α : Type} : List α → List α → List α
  | [], m => m
  | a :: l, m => a :: appL l m
/-- the string, in the words of a round -/
def midS (p q : Str) : Str := appL p (.a 0 :: .a 1 :: .a 2 :: q)
def atK (k : Nat) : SV := .x .i64 (.mk (.ofNat k) [(1, 1)])
def nilP : PC := [.mk 0 [(13, -1)]]
def txtP : PC := [.mk (-1) [(13, 1)]]
def tailFrom (c : Cc) (nx : Nat) (T : TS) (Ts : List TS) : Tr2 := .tail c T Ts (Nat.add nx 100)
/-- states of bytes in a slot: none; unknown ones -/
def txtT (e : Nat) (nx k : Nat) (s : SL) (l : ML) (v : SV) (many : Nat) (m : Mem) (c : Cc) : Tr2 := match v with
  | .ns => tailFrom c nx ⟨(k, .ns) :: s, l, nilP, Nat.add nx many⟩ [⟨(k, .sb nx [.a 3]) :: s, (nx, .bt e [.a 3]) :: l, txtP, Nat.add nx many⟩]
  | .sl g 0 _ (.q 1) => .view g [k] []
  | .sb g u => tailFrom c nx ⟨(k, .sb nx (appL u [.a 3])) :: s, (nx, .bt e (appL u [.a 3])) :: l, [], Nat.add nx many⟩ []
  | _ => .step
/-- guard: slots 0 s, 3 b, 4 i -/
def guardTrig (e : Nat) (c : Cc) : Trig2 := fun s m nx pc => match s.get 0, s.get 3, s.get 4 with
  | some (.s S), some v, some (.i .i64 (.ofNat k)) => match findY c.Y S k with
    | some (p, q) => txtT e nx 3 [(0, .s (midS p q)), (4, atK k)] [] v 1 m c
    | none => .step
  | _, _, _ => .step
/-- the statement's own loop: slots 0 text, 1 ns, 2 s, 7 i -/
def ownTrig (c : Cc) : Trig2 := fun s m nx pc => match s.get 0, s.get 1, s.get 2, s.get 7 with
  | some v0, some v1, some (.s S), some (.i .i64 (.ofNat k)) => match findY c.Y S k with
    | some (p, q) => tailFrom c nx ⟨[(0, v0), (1, v1), (2, .s (midS p q)), (7, atK k)], [], [], nx⟩ []
    | none => .step
  | _, _, _, _ => .step
/-- parts: slots 0 r, 1 inside, 6 out, 7 text -/
def partsTrig (e : Nat) (c : Cc) : Trig2 := fun s m nx pc => match s.get 0, s.get 1, s.get 6, s.get 7 with
  | some (.p r 0), some ins, some out, some v => match m.get r with
    | some (.ce ty [.s S, .i .i64 (.ofNat k), kv] ex) => match findY c.Y S k with
      | some (p, q) => txtT e nx 7 [(0, .p r 0), (1, ins), (6, out)] [(r, .ce ty [.s (midS p q), atK k, kv] ex)] v 1 m c
      | none => .step
    | _ => .step
  | _, _, _, _ => .step
/-- options: slots 0 r, 4 opts, 5 text -/
def optsTrig (e eS : Nat) (c : Cc) : Trig2 := fun s m nx pc => match s.get 0, s.get 4, s.get 5 with
  | some (.p r 0), some o, some v => match m.get r with
    | some (.ce ty [.s S, .i .i64 (.ofNat k), kv] ex) => match findY c.Y S k with
      | some (p, q) => (match o with
        | .sl g 0 _ (.q 1) => .view g [4] []
        | .sb g u => txtT e nx 5 [(0, .p r 0), (4, .sb (Nat.succ nx) (appL u [.a 4]))] [(r, .ce ty [.s (midS p q), atK k, kv] ex), (Nat.succ nx, .ob eS (appL u [.a 4]))] v 2 m c
        | _ => .step)
      | none => .step
    | _ => .step
  | _, _, _ => .step
def ptrOf : List SV → Option Nat
  | .p b 0 :: _ => some b
  | _ :: l => ptrOf l
  | [] => none
/-- each: slots 0 s, 1 lead, 2 unit, 3 lay, 8 fresh, 9 i -/
def eachTrig (e : Nat) (c : Cc) : Trig2 := fun s m nx pc => match s.get 0, s.get 9 with
  | some (.s S), some (.i .i64 (.ofNat k)) => match findY c.Y S k with
    | some (p, q) => match s.get 1, s.get 2, s.get 3, s.get 8 with
      | some v1, some v2, some (.fn f fi ca), some v8 => match ptrOf (appL fi ca) with
        | some b => (match m.get b with
          | some (.ce ty [.i .i64 (.ofNat n)] ex) => tailFrom c nx ⟨[(0, .s (midS p q)), (1, v1), (2, v2), (3, .fn f fi ca), (8, v8), (9, atK k)], [(b, .ce ty [atK n] ex)], [], nx⟩ []
          | some (.ce ty [.np, .ns] ex) => tailFrom c nx ⟨[(0, .s (midS p q)), (1, v1), (2, v2), (3, .fn f fi ca), (8, v8), (9, atK k)], [(b, .ce ty [.np, .ns] ex)], nilP, Nat.succ nx⟩
              [⟨[(0, .s (midS p q)), (1, v1), (2, v2), (3, .fn f fi ca), (8, v8), (9, atK k)], [(b, .ce ty [.p b 0, .sb nx [.a 3]] ex), (nx, .bt e [.a 3])], txtP, Nat.succ nx⟩]
          | some (.ce ty [pb, .sl g 0 _ (.q 1)] ex) => .view g [] [b]
          | some (.ce ty [pb, .sb g u] ex) => tailFrom c nx ⟨[(0, .s (midS p q)), (1, v1), (2, v2), (3, .fn f fi ca), (8, v8), (9, atK k)], [(b, .ce ty [pb, .sb nx (appL u [.a 3])] ex), (nx, .bt e (appL u [.a 3]))], [], Nat.succ nx⟩ []
          | _ => .step)
        | none => .step
      | _, _, _, _ => .step
    | none => .step
  | _, _ => .step
/-! facts on a byte -/
def isB (n : Nat) : Lin := .mk (-1) [(Nat.add (Nat.mul 8 (Nat.add 1 (Nat.mul 16 n))) 7, 1)]
def noB (n : Nat) : Lin := .mk 0 [(Nat.add (Nat.mul 8 (Nat.add 1 (Nat.mul 16 n))) 7, -1)]
/-- the byte's number is n -/
def bvE (n : Nat) : PC := [.mk (.negOfNat n) [(64011, 1)], .mk (.ofNat n) [(64011, -1)]]
/-- lengths: 0, 2, 3, 4 not negative; place 500 nought; all together M at most -/
def oneQ (M : Nat) : PC := [.mk 0 [(1, 1)], .mk 0 [(9, 1)], .mk 0 [(13, 1)], .mk 0 [(17, 1)], .mk 0 [(1000, 1)], .mk 0 [(1000, -1)], .mk (.ofNat M) [(1, -1), (9, -1)], .mk 80 [(13, -1)], .mk 40 [(17, -1)]]
/-- the piece is one byte -/
def oneB1 (more : PC) : PC := .mk (-1) [(5, 1)] :: .mk 1 [(5, -1)] :: more
def pk1 : Str := [.a 1]
def shT : Sh := ⟨[.a 3, .a 1], [.a 4], []⟩
def shC (n : Nat) : Sh := ⟨[.a 3, .c n], [.a 4], []⟩
def sh0 : Sh := ⟨[], [], []⟩
def shE : Sh := ⟨[.a 3, .c 92, .a 1], [.a 4], []⟩
def noBs : PC := [noB 36, noB 125, noB 92]
/-- one class; what was gone through is kept -/
def ccN (M : Nat) (Y : Str) (vk : List Nat) (cl : PC) : Cc := ⟨Y, oneQ M, [(oneB1 cl, pk1, shT)], sh0, ⟨Y, [], []⟩, vk⟩
/-- guard: a backslash ahead of three bytes; f: what comes of it -/
def ccS (Y f : Str) : Cc := ⟨Y, oneQ 60, [(oneB1 noBs, pk1, shT), (oneB1 (bvE 36), pk1, shE), (oneB1 (bvE 125), pk1, shE), (oneB1 (bvE 92), pk1, shE)], sh0, ⟨f, [], []⟩, [3]⟩
/-- the reader of that: the three bytes behind a backslash; f: what it was -/
def ccR (Y f : Str) : Cc := ⟨Y, oneQ 80, [(oneB1 noBs, pk1, shT), ([], [.c 92, .c 36], shC 36), ([], [.c 92, .c 125], shC 125), ([], [.c 92, .c 92], shC 92)], sh0, ⟨f, [], []⟩, [7]⟩
abbrev SumF := List SV → Mem → Nat → PC → (SV → Mem → Nat → PC → Bool) → Bool
def withF (f : Nat) (g : SumF) (sm : SumT) : SumT := fun x => match Nat.beq x f with
  | true => some g
  | false => sm x
def callX' (P : Program) (sm : SumT) (f : Nat) (c : Code) (l : List Trig2) : SumF := fun args m nx pc K => callX P sm 1000000 200 f (mkX c l).1 args m nx pc K
def va (i : Nat) : Lin := .mk 0 [(i, 1)]
def isTrue (v : SV) (_ : Mem) (_ : Nat) (_ : PC) : Bool := match v with
  | .b true => true
  | _ => false
end X
end Go.Proofs.YtdbchpoaoghgpaaGreatDoor

set_option linter.unusedSimpArgs false
set_option linter.unusedVariables false
namespace Go.Proofs.YtdbchpoaoghgpaaGreatDoor
namespace X
open Go.RowKit B

/-! ### Elements: anchor, head, the lesser, the greater -/
def eA (e : Nat) : Nat := Nat.add 2000 (Nat.mul 8 e)
def eH (e : Nat) : Nat := Nat.add 2002 (Nat.mul 8 e)
def eF (e : Nat) : Nat := Nat.add 2004 (Nat.mul 8 e)
def eT (e : Nat) : Nat := Nat.add 2006 (Nat.mul 8 e)
def xv (i : Nat) : SV := .x .i64 (.mk 0 [(i, 1)])
def lv (i : Nat) : Lin := .mk 0 [(i, 1)]
def selC (e : Nat) : List SV := [xv (eA e), xv (eH e)]
def selsC : List Nat → List SV
  | [] => []
  | e :: l => xv (eA e) :: xv (eH e) :: selsC l
/-- first where it begins, then where it ends -/
def keyL (e : Nat) : Lin := .mk 0 [(eF e, 1001), (eT e, 1)]
def upto (a : Nat) : Nat → List Nat
  | 0 => []
  | n + 1 => a :: upto (Nat.succ a) n
/-- sorted so far: element k behind s rounds -/
def sId (s k : Nat) : Nat := match s with
  | 0 => 0
  | s => Nat.add 16 (Nat.add (Nat.mul 8 s) k)
def cId (i : Nat) : Nat := Nat.add 80 i
def dId (j : Nat) : Nat := Nat.add 96 j
def gV (i : Nat) : Nat := Nat.add 6000 (Nat.mul 2 i)
def mapL {α β : Type} (f : α → β) : List α → List β
  | [] => []
  | a :: l => f a :: mapL f l
def catL {α β : Type} (f : α → List β) : List α → List β
  | [] => []
  | a :: l => appL (f a) (catL f l)
def appL' {α : Type} (a b : List α) : List α := appL a b
/-- x >= 0 -/
def ge (a b : Lin) : Lin := a.sub b
def gt (a b : Lin) : Lin := (a.sub b).add (.mk (-1) [])
/-- two numbers of elements are one -/
def eqE (g : PC) (x y : Nat) : List (PC × Lin × Lin) := [(g, lv (eA x), lv (eA y)), (g, lv (eH x), lv (eH y))]
/-- round s puts element s among s sorted ones -/
def sortR (s : Nat) : List (PC × Lin × Lin) := catL (fun k =>
  appL (match Nat.blt k s with
    | true => eqE [ge (keyL s) (keyL (sId (Nat.pred s) k))] (sId s k) (sId (Nat.pred s) k)
    | false => [])
  (appL (eqE (appL (match Nat.blt k s with
      | true => [gt (keyL (sId (Nat.pred s) k)) (keyL s)]
      | false => []) (match k with
      | 0 => []
      | k' + 1 => [ge (keyL s) (keyL (sId (Nat.pred s) k'))])) (sId s k) s)
  (match k with
    | 0 => []
    | k' + 1 => eqE [gt (keyL (sId (Nat.pred s) k')) (keyL s)] (sId s k) (sId (Nat.pred s) k')))) (upto 0 (Nat.succ s))
/-- the sorted ones rise -/
def sortP (s : Nat) : PC := mapL (fun k => ge (keyL (sId s (Nat.succ k))) (keyL (sId s k))) (upto 0 s)
def sortFr (s : Nat) : FR := mapL (fun e => ([], e)) (sortP s)
def sortRs (s : Nat) : Rules := ⟨[], sortR s⟩
def sortT (n i ty : Nat) (d : Nat) (ex : Bool) (v0 v1 v2 v3 : SV) (nx : Nat) : TS :=
  ⟨[(0, v0), (1, v1), (2, v2), (3, v3), (8, .i .i64 (.ofNat i))], [(d, .ce ty (selsC (appL (mapL (sId (Nat.pred i)) (upto 0 i)) (upto i (Nat.sub n i)))) ex)], sortP (Nat.pred i), nx⟩
/-- insertionSortCmpFunc: slots 0 data, 1 a, 2 b, 3 cmp, 8 i -/
def sortTrig : Trig2 := fun s m nx pc => match s.get 0, s.get 1, s.get 2, s.get 3, s.get 8 with
  | some (.sl d 0 n c), some (.i .i64 (.ofNat 0)), some (.i .i64 (.ofNat b)), some f, some (.i .i64 (.ofNat 1)) => match Nat.beq n b && Nat.blt 1 n && Nat.ble n 6 with
    | true => match m.get d with
      | some (.ce ty _ ex) => match mapL (fun i => (sortT n i ty d ex (.sl d 0 n c) (.i .i64 (.ofNat 0)) (.i .i64 (.ofNat b)) f nx, sortRs i, sortFr i)) (upto 1 (Nat.pred n)) with
        | (T, rs, fr) :: Is => .fam rs fr [] T Is [sortT n n ty d ex (.sl d 0 n c) (.i .i64 (.ofNat 0)) (.i .i64 (.ofNat b)) f nx] (Nat.add nx 200)
        | [] => .step
      | _ => .step
    | false => .step
  | _, _, _, _, _ => .step
/-! those that touch -/
def is (x : Nat) (n : Nat) : PC := [(lv x).sub (.mk (.ofNat n) []), (Lin.mk (.ofNat n) []).sub (lv x)]
def touchP (x y : Nat) : PC := [ge (lv (eT x)) (lv (eF y))]
def apartP (x y : Nat) : PC := [gt (lv (eF y)) (lv (eT x))]
/-- element i of the sorted ones comes to the last group -/
def joinR (n i : Nat) : List (PC × Lin × Lin) :=
  let c := cId i
  let c' := cId (Nat.succ i)
  let x := sId (Nat.pred n) i
  let fw : PC := [ge (lv (eH c)) (lv (eA c))]
  let bw : PC := [gt (lv (eA c)) (lv (eH c))]
  let lo : PC := [ge (lv (eT c)) (lv (eT x))]
  let hi : PC := [ge (lv (eT x)) (lv (eT c))]
  appL (eqE (apartP c x) c' x) (appL [(appL (touchP c x) fw, lv (eA c'), lv (eF c)), (appL (touchP c x) bw, lv (eH c'), lv (eF c)),
    (appL (touchP c x) (appL fw lo), lv (eH c'), lv (eT c)), (appL (touchP c x) (appL fw hi), lv (eH c'), lv (eT x)),
    (appL (touchP c x) (appL bw lo), lv (eA c'), lv (eT c)), (appL (touchP c x) (appL bw hi), lv (eA c'), lv (eT x))]
    (catL (fun g => eqE (appL (is (gV i) (Nat.succ g)) (apartP c x)) (dId g) c) (upto 0 i)))
def joinR0 (n : Nat) : List (PC × Lin × Lin) := eqE [] (cId 1) (sId (Nat.pred n) 0)
def joinFr0 : FR := mapL (fun e => ([], e)) (is (gV 1) 1)
def joinFrG (n i g : Nat) : FR := appL (mapL (fun e => (appL (is (gV i) g) (apartP (cId i) (sId (Nat.pred n) i)), e)) (is (gV (Nat.succ i)) (Nat.succ g)))
    (mapL (fun e => (appL (is (gV i) g) (touchP (cId i) (sId (Nat.pred n) i)), e)) (is (gV (Nat.succ i)) g))
/-- facts of where element i and the last group begin -/
def joinP (n i : Nat) : PC := match Nat.blt i n with
  | true => let c := cId i
    let x := sId (Nat.pred n) i
    [ge (lv (eF x)) (lv (eF c)), ge (lv (eT x)) (lv (eF x)), ge (lv (eT c)) (lv (eF c))]
  | false => []
def joinT (n i g ty d o : Nat) (ex : Bool) (v14 v15 : SV) (nx : Nat) : TS :=
  ⟨[(14, v14), (15, v15), (16, .i .i64 (.ofNat i)), (4, .sl o 0 g (.q 2))], [(d, .ce ty (selsC (mapL (sId (Nat.pred n)) (upto 0 n))) ex), (o, .ce ty (selsC (appL (mapL dId (upto 0 (Nat.pred g))) [cId i])) false)], appL (is (gV i) g) (joinP n i), Nat.succ o⟩
/-- order: slots 4 out, 14 in, 15 its length, 16 the place -/
def joinTrig (N : Nat) : Trig2 := fun s m nx pc => match s.get 4, s.get 14, s.get 15, s.get 16 with
  | some (.sl o 0 1 (.q 2)), some (.sl d 0 n c), some v15, some (.i .i64 (.ofNat 1)) => match Nat.beq n N && Nat.blt 1 n with
    | true => match m.get d with
      | some (.ce ty _ ex) => match catL (fun i => mapL (fun g => (joinT n i g ty d nx ex (.sl d 0 n c) v15 nx, (⟨[], appL (joinR n i) (joinR0 n)⟩ : Rules), appL (mapL (fun e => ([], e)) (appL (joinP n i) (joinP n (Nat.succ i)))) (appL joinFr0 (joinFrG n i g)))) (upto 1 i)) (upto 1 (Nat.pred n)) with
        | (T, rs, fr) :: Is => .fam rs fr [] T Is (mapL (fun g => joinT n n g ty d nx ex (.sl d 0 n c) v15 nx) (upto 1 n)) (Nat.add nx 200)
        | [] => .step
      | _ => .step
    | false => .step
  | _, _, _, _ => .step
/-! what single functions hand back -/
def isEl (i : Nat) : Bool := Nat.ble 2000 i && Nat.ble i 2872 && Nat.beq (Nat.mod i 8) 0
/-- sels.Span of an element -/
def spanE (v : SV) : Option (Nat × Nat) := match v with
  | .ag [.x .i64 (.mk 0 [(i, 1)]), .x .i64 (.mk 0 [(j, 1)])] => match isEl i && Nat.beq j (Nat.add i 2) with
    | true => some (Nat.add i 4, Nat.add i 6)
    | false => none
  | _ => none
def spanS (P : Program) (sm : SumT) (f : Nat) : SumF := fun args m nx pc K => match args with
  | [v] => match spanE v with
    | some (i, j) => K (.ag [xv i, xv j]) m nx pc
    | none => callBy P sm (ev P sm 1000000) f args m nx pc K
  | _ => false
/-- what order sorts by, of elements -/
def cmpS (P : Program) (sm : SumT) (f : Nat) : SumF := fun args m nx pc K => match args with
  | [a, b] => match spanE a, spanE b with
    | some (i, j), some (k, l) => dec2 pc (ge (.mk 0 [(i, 1001), (j, 1)]) (.mk 0 [(k, 1001), (l, 1)])) fun r pc => match r with
      | true => dec2 pc (ge (.mk 0 [(k, 1001), (l, 1)]) (.mk 0 [(i, 1001), (j, 1)])) fun q pc => match q with
        | true => K (.i .i64 (.ofNat 0)) m nx pc
        | false => K (.i .i64 (.ofNat 1)) m nx pc
      | false => K (.i .i64 (.negSucc 0)) m nx pc
    | _, _ => callBy P sm (ev P sm 1000000) f args m nx pc K
  | _ => false
end X
end Go.Proofs.YtdbchpoaoghgpaaGreatDoor

set_option linter.unusedSimpArgs false
set_option linter.unusedVariables false
namespace Go.Proofs.YtdbchpoaoghgpaaGreatDoor
namespace X
open Go.RowKit B

noncomputable def cIns : Code := bodyOf Tryz.f259.body
noncomputable def cOrder : Code := bodyOf Tryz.f82.body
def smZ : SumT := fun _ => none
noncomputable def smN1 : SumT := withF 81 (spanS Tryz.prog smZ 81) smZ
noncomputable def smN2 : SumT := withF 133 (cmpS Tryz.prog smN1 133) smN1
noncomputable def smN3 : SumT := withF 259 (callX' Tryz.prog smN2 259 cIns [sortTrig]) smN2
noncomputable def smN4 (n : Nat) : SumT := withF 82 (callX' Tryz.prog smN3 82 cOrder [joinTrig n]) smN3
def inP (e : Nat) : PC := [lv (eF e), ge (lv 25) (lv (eT e)), ge (lv (eT e)) (lv (eF e))]
def normP (n : Nat) : PC := appL (is (gV 1) 1) (catL inP (upto 0 n))
def normV (g : Nat) : SV := .tu [.sl 1 0 g (.q 2), .i .i64 (.ofNat 0)]
def normL (g : Nat) : ML := [(1, .ce 51 (selsC (mapL dId (upto 0 g))) false)]
def endRs (n g : Nat) : Rules := ⟨[], match n with
  | 1 => eqE [] (dId 0) 0
  | n => eqE (is (gV n) g) (dId (Nat.pred g)) (cId n)⟩
def normEnd (n : Nat) (v : SV) (m : Mem) (nx : Nat) (pc : PC) : Bool := match v with
  | .tu [.sl _ 0 g (.q 2), .i .i64 (.ofNat 0)] => Nat.blt 0 g && allP pc (is (gV n) g) && cutEnd (endRs n g) 1 (normV g) (normL g) 700 [] v m nx pc
  | _ => false
noncomputable def normK (n : Nat) : Bool := mkK [(0, .ce 51 (selsC (upto 0 n)) false)] .lf fun m0 => callBy Tryz.prog (smN4 n) (ev Tryz.prog (smN4 n) 1000000) 46 [xv 25, .sl 0 0 n (.q 2)] m0 1 (normP n) (normEnd n)
end X
end Go.Proofs.YtdbchpoaoghgpaaGreatDoor

set_option linter.unusedSimpArgs false
set_option linter.unusedVariables false
namespace Go.Proofs.YtdbchpoaoghgpaaGreatDoor
namespace X
open Go.RowKit B

/-- what a call hands on, in one -/
def CallY (P : Program) (ρ : Rho) (f : Nat) (g : SumF) : Prop := ∀ args m nx pc, Sat ρ pc → Yl (fun K => g args m nx pc fun v m nx pc => K ⟨v, m, nx, pc⟩) (CallR P ρ f args m nx)
theorem withF_ok {P : Program} {ρ : Rho} {sm : SumT} {f : Nat} {g : SumF} (h : SumOk P ρ sm) (hg : CallY P ρ f g) : SumOk P ρ (withF f g sm) := fun x y hy args m nx pc hs => by
  unfold withF at hy
  split at hy
  · rename_i hf
    have := Nat.eq_of_beq_eq_true hf
    subst this
    cases hy
    exact hg args m nx pc hs
  · exact h x y hy args m nx pc hs
theorem callX_ok {P : Program} {ρ : Rho} (hm : P.follows .mixedOrders = true) {sm : SumT} (hsm : ∀ ρ', Agree ρ ρ' → SumOk P ρ' sm) {f : Nat} {c : Code} {l : List Trig2} {fn : Func} (hf : P.funcs[f]? = some fn) (hb : fn.body = some (mkX c l).1.code) (htr : ∀ t ∈ l, Tr2Ok ρ t) : CallY P ρ f (callX' P sm f c l) := fun args m nx pc hs =>
  callX_yl hm hsm hf hb (mkX_tr htr).1 hs
theorem callBy_c {P : Program} {ρ : Rho} (hm : P.follows .mixedOrders = true) {sm : SumT} (hsm : SumOk P ρ sm) {f : Nat} : CallY P ρ f (callBy P sm (ev P sm 1000000) f) := fun args m nx pc hs => callBy_ok hm hsm 1000000 f args m nx pc hs
/-- a call from nothing: what it hands back, told by K -/
theorem pure_of {P : Program} {ρ : Rho} {f : Nat} {args : List SV} {pc : PC} {vs : List Value} {g : SumF} {K : SV → Mem → Nat → PC → Bool} (hg : CallY P ρ f g) (hs : Sat ρ pc) (hk : g args .lf 0 pc K = true) (hd : dens ρ (fun _ => none) args = some vs) : ∃ r : O4, K r.v r.m r.nx r.pc = true ∧ Sat ρ r.pc ∧
    ∀ w, Calls P f vs.toArray w (fun e w' => ∃ v θ', e = .returned v ∧ den ρ θ' r.v = some v ∧ Ext none' w w') := by
  obtain ⟨r, hr, hv, _⟩ := hg args .lf 0 pc hs (fun r => K r.v r.m r.nx r.pc) hk
  refine ⟨r, hv, hr.pc, fun w => ?_⟩
  have hM : MemOk ρ (fun _ => none) (Tr.get (α := Blk) .lf) w := ⟨fun t b h => by simp [Tr.get] at h, fun x y g c c' h => by simp [Tr.get] at h⟩
  exact calls_mono (hr.run w _ vs hd hM fun t _ _ => rfl) fun e w' ⟨v, θ', h1, h2, h3⟩ => ⟨v, θ', h1, h3, h2.ext.mono fun g _ ⟨t, c, q, _⟩ => absurd rfl q⟩
theorem SP.still' {ρ : Rho} {nx : Nat} {θ : Th} {R : Nat → Option Blk} {w w' : World} (h : MemOk ρ θ R w) (hx : Ext none' w w') : SP ρ nx nx θ R w θ R w' :=
  ⟨ThLe.refl _, fun t ht => .inl ht, ⟨fun t b hb => (h.holds t b hb).keep (ThLe.refl _) hx fun _ _ _ h => h, h.inj⟩, hx.mono fun _ _ h => h.elim, fun g hg => .inl hg⟩
/-- a call that leaves memory as it is -/
theorem CallR.pur {P : Program} {ρ : Rho} {m : Mem} {nx : Nat} {f : Nat} {args : List SV} {v : SV} {pc' : PC} (he : ∀ args w, (callFunc f args).run P w = .ok (.enter f args) w) (hs : Sat ρ pc') (h : ∀ (θ : Th) (w : World) (vs : List Value), dens ρ θ args = some vs → ∃ u, den ρ θ v = some u ∧ Calls P f vs.toArray w (fun e w' => e = .returned u ∧ Ext none' w w')) : CallR P ρ f args m nx ⟨v, m, nx, pc'⟩ :=
  ⟨he, hs, Nat.le_refl _, fun t h1 h2 => absurd h1 h2, fun w θ vs hvs hM _ => by
    obtain ⟨u, h1, h2⟩ := h θ w vs hvs
    exact calls_mono h2 fun e w' ⟨e1, e2⟩ => ⟨u, θ, e1, SP.still' hM e2, h1⟩⟩
end X
end Go.Proofs.YtdbchpoaoghgpaaGreatDoor

set_option linter.unusedSimpArgs false
set_option linter.unusedVariables false
namespace Go.Proofs.YtdbchpoaoghgpaaGreatDoor
namespace X

/-- how many breaks; how many bytes at the beginning have at most n of them -/
def brk : List UInt8 → Nat
  | [] => 0
  | b :: l => (if b = 10 then 1 else 0) + brk l
def uptoL : List UInt8 → Nat → Nat
  | [], _ => 0
  | b :: l, n => if b = 10 then (match n with
    | 0 => 0
    | n + 1 => 1 + uptoL l n) else 1 + uptoL l n
theorem brk_app : ∀ {a b : List UInt8}, brk (a ++ b) = brk a + brk b
  | [], b => by simp [brk]
  | x :: a, b => by simp only [List.cons_append, brk, brk_app (a := a)]; omega
theorem brk_le : ∀ {l : List UInt8}, brk l ≤ l.length
  | [] => Nat.le_refl _
  | b :: l => by
    have := brk_le (l := l)
    simp only [brk, List.length_cons]; split <;> omega
theorem brk_take {l : List UInt8} (k : Nat) : brk (l.take k) ≤ brk l := by
  have := brk_app (a := l.take k) (b := l.drop k)
  rw [List.take_append_drop] at this; omega
theorem uptoL_le : ∀ {l : List UInt8} {n : Nat}, uptoL l n ≤ l.length
  | [], _ => Nat.le_refl _
  | b :: l, n => by
    simp only [uptoL, List.length_cons]
    split
    · cases n with
      | zero => simp
      | succ n => have := uptoL_le (l := l) (n := n); simp only; omega
    · have := uptoL_le (l := l) (n := n); omega
theorem uptoL_all : ∀ {l : List UInt8} {n : Nat}, brk l ≤ n → uptoL l n = l.length
  | [], _, _ => rfl
  | b :: l, n, h => by
    simp only [brk] at h
    simp only [uptoL, List.length_cons]
    split
    · rename_i hb
      rw [if_pos hb] at h
      cases n with
      | zero => omega
      | succ n => simp only; rw [uptoL_all (l := l) (n := n) (by omega)]; omega
    · rename_i hb
      rw [if_neg hb] at h
      rw [uptoL_all (l := l) (n := n) (by omega)]; omega
/-- what stands ahead of k has at most n breaks: it is gone through -/
theorem uptoL_ge : ∀ {l : List UInt8} {n k : Nat}, k ≤ l.length → brk (l.take k) ≤ n → k ≤ uptoL l n
  | [], n, k, hk, _ => by simp at hk; omega
  | b :: l, n, 0, _, _ => Nat.zero_le _
  | b :: l, n, k + 1, hk, h => by
    simp only [List.take_succ_cons, brk] at h
    simp only [List.length_cons] at hk
    simp only [uptoL]
    split
    · rename_i hb
      rw [if_pos hb] at h
      cases n with
      | zero => omega
      | succ n => have := uptoL_ge (l := l) (n := n) (k := k) (by omega) (by omega); simp only; omega
    · rename_i hb
      rw [if_neg hb] at h
      have := uptoL_ge (l := l) (n := n) (k := k) (by omega) (by omega); omega
/-- it has more: it is not -/
theorem uptoL_lt : ∀ {l : List UInt8} {n k : Nat}, k ≤ l.length → n < brk (l.take k) → uptoL l n < k
  | [], n, k, hk, h => by simp [brk] at h
  | b :: l, n, 0, _, h => by simp [brk] at h
  | b :: l, n, k + 1, hk, h => by
    simp only [List.take_succ_cons, brk] at h
    simp only [List.length_cons] at hk
    simp only [uptoL]
    split
    · rename_i hb
      rw [if_pos hb] at h
      cases n with
      | zero => simp
      | succ n => have := uptoL_lt (l := l) (n := n) (k := k) (by omega) (by omega); simp only; omega
    · rename_i hb
      rw [if_neg hb] at h
      have := uptoL_lt (l := l) (n := n) (k := k) (by omega) (by omega); omega
/-- where a line begins, where it ends -/
def lnS (l : List UInt8) : Nat → Nat
  | 0 => 0
  | n + 1 => uptoL l n + 1
theorem lnS_le {l : List UInt8} {k : Nat} (hk : k ≤ l.length) : lnS l (brk (l.take k)) ≤ k := by
  cases h : brk (l.take k) with
  | zero => exact Nat.zero_le _
  | succ n =>
    have := uptoL_lt (l := l) (n := n) (k := k) hk (by omega)
    show uptoL l n + 1 ≤ k
    omega
theorem le_lnE {l : List UInt8} {k : Nat} (hk : k ≤ l.length) : k ≤ uptoL l (brk (l.take k)) := uptoL_ge hk (Nat.le_refl _)
/-- any line: it begins no later than it ends -/
theorem lnS_lnE {l : List UInt8} {n : Nat} (h : n ≤ brk l) : lnS l n ≤ uptoL l n := by
  cases n with
  | zero => exact Nat.zero_le _
  | succ n =>
    show uptoL l n + 1 ≤ uptoL l (n + 1)
    have key : ∀ {l : List UInt8} {n : Nat}, n + 1 ≤ brk l → uptoL l n + 1 ≤ uptoL l (n + 1) := by
      intro l
      induction l with
      | nil => intro n h; simp [brk] at h
      | cons b l ih =>
        intro n h
        simp only [brk] at h
        simp only [uptoL]
        split
        · rename_i hb
          rw [if_pos hb] at h
          cases n with
          | zero => simp only; omega
          | succ n => have := ih (n := n) (by omega); simp only; omega
        · rename_i hb
          rw [if_neg hb] at h
          have := ih (n := n) (by omega); omega
    exact key h
/-! ### Steps of the loops -/
theorem uptoL_lf {l : List UInt8} {i n : Nat} (h : i < l.length) (hb : l[i] = 10) : uptoL (l.drop i) (n + 1) = 1 + uptoL (l.drop (i + 1)) n := by
  rw [List.drop_eq_getElem_cons h, uptoL, if_pos hb]
theorem uptoL_lf0 {l : List UInt8} {i : Nat} (h : i < l.length) (hb : l[i] = 10) : uptoL (l.drop i) 0 = 0 := by
  rw [List.drop_eq_getElem_cons h, uptoL.eq_def]
  simp [hb]
theorem uptoL_no {l : List UInt8} {i n : Nat} (h : i < l.length) (hb : l[i] ≠ 10) : uptoL (l.drop i) n = 1 + uptoL (l.drop (i + 1)) n := by
  rw [List.drop_eq_getElem_cons h, uptoL.eq_def]
  simp [hb]
theorem uptoL_end {l : List UInt8} {i n : Nat} (h : l.length ≤ i) : uptoL (l.drop i) n = 0 := by rw [List.drop_eq_nil_of_le h]; rfl
/-- what bytes tell, added up -/
def sumF (f : Int → Int) : List UInt8 → Int
  | [] => 0
  | b :: l => f b.toNat + sumF f l
theorem sumF_step {f : Int → Int} {l : List UInt8} {i : Nat} (h : i < l.length) : sumF f (l.drop i) = f (l[i]).toNat + sumF f (l.drop (i + 1)) := by
  rw [List.drop_eq_getElem_cons h, sumF]
theorem sumF_end {f : Int → Int} {l : List UInt8} {i : Nat} (h : l.length ≤ i) : sumF f (l.drop i) = 0 := by rw [List.drop_eq_nil_of_le h]; rfl
theorem sumF_bnd {f : Int → Int} (hf : ∀ c, 0 ≤ c → c ≤ 255 → 0 ≤ f c ∧ f c ≤ 2) : ∀ {l : List UInt8}, 0 ≤ sumF f l ∧ sumF f l ≤ 2 * l.length
  | [] => ⟨Int.le_refl _, Int.le_refl _⟩
  | b :: l => by
    have h1 := hf b.toNat (by omega) (by have := b.toNat_lt; omega)
    have h2 := sumF_bnd hf (l := l)
    simp only [sumF, List.length_cons]
    omega
/-- by bytes -/
def lfF (c : Int) : Int := if c = 10 then 1 else 0
theorem sumF_brk : ∀ {l : List UInt8}, sumF lfF l = brk l
  | [] => rfl
  | b :: l => by
    have hb : ((b.toNat : Int) = 10) ↔ b = 10 := ⟨fun h => UInt8.toNat_inj.1 (by show b.toNat = 10; omega), fun h => by rw [h]; rfl⟩
    simp only [sumF, brk, sumF_brk (l := l), lfF, hb]
    split <;> simp
/-- bytes of a word in a row -/
def wpre (p : UInt8 → Bool) : List UInt8 → Nat
  | [] => 0
  | b :: l => if p b then wpre p l + 1 else 0
theorem wpre_le {p : UInt8 → Bool} : ∀ {l : List UInt8}, wpre p l ≤ l.length
  | [] => Nat.le_refl _
  | b :: l => by
    have := wpre_le (p := p) (l := l)
    simp only [wpre, List.length_cons]; split <;> omega
theorem wpre_step {p : UInt8 → Bool} {l : List UInt8} {i : Nat} (h : i < l.length) (hb : p l[i] = true) : wpre p (l.drop i) = wpre p (l.drop (i + 1)) + 1 := by
  rw [List.drop_eq_getElem_cons h, wpre, if_pos hb]
theorem wpre_no {p : UInt8 → Bool} {l : List UInt8} {i : Nat} (h : i < l.length) (hb : p l[i] = false) : wpre p (l.drop i) = 0 := by
  rw [List.drop_eq_getElem_cons h, wpre, if_neg (by rw [hb]; simp)]
theorem wpre_end {p : UInt8 → Bool} {l : List UInt8} {i : Nat} (h : l.length ≤ i) : wpre p (l.drop i) = 0 := by rw [List.drop_eq_nil_of_le h]; rfl
end X
end Go.Proofs.YtdbchpoaoghgpaaGreatDoor

set_option linter.unusedSimpArgs false
set_option linter.unusedVariables false
namespace Go.Proofs.YtdbchpoaoghgpaaGreatDoor
namespace X
open Go.RowKit B

/-! ### The triggers hand on what they were given -/
section
variable {e k many hi nx : Nat} {s : Tr SV} {m : Mem} {pc : PC} {c c' : Cc} {T : TS} {Ts : List TS} {sl : SL} {l : ML} {v : SV}
/-- it goes through c, or takes a step -/
def TrC (c : Cc) (t : Tr2) : Prop := match t with
  | .step => True
  | .view _ _ _ => True
  | .tail c' _ _ _ => c' = c
  | .fam .. => False
theorem txtT_c : TrC c (txtT e nx k sl l v many m c) := by
  unfold txtT tailFrom
  split <;> trivial
theorem guardTrig_c : TrC c (guardTrig e c s m nx pc) := by
  unfold guardTrig
  split
  · split
    · exact txtT_c
    · trivial
  · trivial
theorem ownTrig_c : TrC c (ownTrig c s m nx pc) := by
  unfold ownTrig tailFrom
  split
  · split <;> trivial
  · trivial
theorem partsTrig_c : TrC c (partsTrig e c s m nx pc) := by
  unfold partsTrig
  split
  · split
    · split
      · exact txtT_c
      · trivial
    · trivial
  · trivial
theorem eachTrig_c : TrC c (eachTrig e c s m nx pc) := by
  unfold eachTrig tailFrom
  split
  · split
    · split
      · split
        · split <;> trivial
        · trivial
      · trivial
    · trivial
  · trivial
theorem trc_ok {ρ : Rho} {trig : Trig2} {enc : UInt8 → List UInt8} {l : List UInt8} {I : Rho → Prop} (h : ∀ s m nx pc, TrC c (trig s m nx pc)) (hc : CcR ρ c enc l I) : Tr2Ok ρ trig := by
  constructor
  · intro s m nx pc c' T Ts hi ht
    have := h s m nx pc
    rw [ht] at this
    cases this
    exact ⟨_, _, _, hc⟩
  · intro s m nx pc rs fr pc0 T Is Fs hi ht
    have := h s m nx pc
    rw [ht] at this
    exact this.elim
end
/-! ### Facts -/
section
variable {ρ ρ0 : Rho} {b : UInt8} {n : Nat}
theorem noB_ok (h1 : ρ.s 1 = [b]) (hn : n < 256) (hb : b ≠ UInt8.ofNat n) : 0 ≤ (noB n).den ρ := by
  have := ρ.at_e 1 n (by omega) hn
  rw [h1, if_neg (by simpa using hb)] at this
  show 0 ≤ (0 : Int) + (-1 * ρ.at (8 * (1 + 16 * n) + 7) + 0)
  omega
theorem bvE_ok (h1 : ρ.s 1 = [b]) (hv : ρ.v 500 = 0) (hb : b.toNat = n) : Sat ρ (bvE n) := by
  have := ρ.at_b 1 500 (by omega)
  rw [h1, hv] at this
  have : ρ.at 64011 = (n : Int) := by rw [this]; simp [hb]
  have ng (m : Nat) : Int.negOfNat m = -(m : Int) := by cases m <;> rfl
  intro e he
  simp only [bvE, List.mem_cons, List.not_mem_nil, or_false] at he
  rcases he with rfl | rfl
  · simp only [Lin.den, dts, this, ng]; omega
  · simp only [Lin.den, dts, this, Int.ofNat_eq_natCast]; omega
theorem sat_cons {e : Lin} {l : PC} (h : 0 ≤ e.den ρ) (hl : Sat ρ l) : Sat ρ (e :: l) := fun x hx => by
  rcases List.mem_cons.1 hx with rfl | hx
  · exact h
  · exact hl x hx
theorem sat_nil : Sat ρ [] := fun x hx => by cases hx
theorem oneB1_ok (h1 : ρ.s 1 = [b]) {pc : PC} (h : Sat ρ pc) : Sat ρ (oneB1 pc) := by
  have a1 : ρ.at 5 = ((ρ.s 1).length : Int) := ρ.at_l 1
  rw [h1] at a1
  simp only [List.length_cons, List.length_nil] at a1
  exact sat_cons (by simp only [Lin.den, dts, a1]; omega) (sat_cons (by simp only [Lin.den, dts, a1]; omega) h)
/-- two beginnings of a list, told alike -/
theorem pre_inj {enc : UInt8 → List UInt8} (ne : ∀ b, enc b ≠ []) : ∀ {z z1 r r1 l : List UInt8}, z ++ r = l → z1 ++ r1 = l → z.flatMap enc = z1.flatMap enc → z = z1
  | [], [], _, _, _, _, _, _ => rfl
  | [], b :: z1, _, _, _, _, _, h => by
    rw [List.flatMap_nil, List.flatMap_cons] at h
    exact absurd (List.append_eq_nil_iff.1 h.symm).1 (ne b)
  | b :: z, [], _, _, _, _, _, h => by
    rw [List.flatMap_nil, List.flatMap_cons] at h
    exact absurd (List.append_eq_nil_iff.1 h).1 (ne b)
  | a :: z, b :: z1, r, r1, l, h1, h2, h => by
    rw [← h2] at h1
    simp only [List.cons_append, List.cons.injEq] at h1
    obtain ⟨rfl, h1⟩ := h1
    rw [List.flatMap_cons, List.flatMap_cons, List.append_cancel_left_eq] at h
    rw [pre_inj ne h1 rfl h]
theorem ccq_ok (hv : ρ0.v 500 = 0) {M : Nat} {Y : Str} {enc : UInt8 → List UInt8} {l : List UInt8} (hY : denS ρ0 Y = l.flatMap enc) (hM : (l.flatMap enc).length ≤ M) (ne : ∀ b, enc b ≠ [])
    {cl : List (PC × Str × Sh)} {f : Sh} {vk : List Nat} (g3 g4 : List UInt8 → List UInt8) (e3 : g3 [] = []) (e4 : g4 [] = []) (b3 : ∀ z r, z ++ r = l → (g3 z).length ≤ 80) (b4 : ∀ z r, z ++ r = l → (g4 z).length ≤ 40)
    (hcl : ∀ b ∈ l, ∃ k, k ∈ cl ∧ k.2.2.s5 = [] ∧ ∀ ρ z, Agree ρ0 ρ → ρ.s 1 = enc b → ρ.s 3 = g3 z → ρ.s 4 = g4 z → denS ρ k.2.1 = enc b ∧ Sat ρ k.1 ∧ denS ρ k.2.2.s3 = g3 (z ++ [b]) ∧ denS ρ k.2.2.s4 = g4 (z ++ [b]))
    (f3 : denS ρ0 f.s3 = g3 l) (f4 : denS ρ0 f.s4 = g4 l) (f5 : f.s5 = []) :
    CcR ρ0 ⟨Y, oneQ M, cl, sh0, f, vk⟩ enc l (fun ρ => ∃ z r, z ++ r = l ∧ ρ.s 0 = z.flatMap enc ∧ ρ.s 3 = g3 z ∧ ρ.s 4 = g4 z ∧ ρ.s 5 = []) := by
  refine ⟨hY, fun ρ hag h0 h3 h4 h5 => ⟨[], l, rfl, h0, by rw [h3, e3]; rfl, by rw [h4, e4]; rfl, by rw [h5]; rfl⟩, fun ρ z b r hag hJ h0 hcat ⟨z1, r1, hc1, i0, i3, i4, i5⟩ => ?_, fun ρ hag h0 ⟨z1, r1, hc1, i0, i3, i4, i5⟩ => ?_⟩
  · have hz : z1 = z := pre_inj ne hc1 hcat (by rw [← i0, h0])
    subst hz
    have s1 : ρ.s 1 = enc b := hJ.s1
    have s2 : ρ.s 2 = r.flatMap enc := hJ.s2
    obtain ⟨k, hk, k5, hkr⟩ := hcl b (by rw [← hcat]; simp)
    obtain ⟨q0, q1, q3, q4⟩ := hkr ρ z1 hag s1 i3 i4
    refine ⟨k, hk, by rw [q0, s1], q1, ?_, ⟨z1 ++ [b], r, by rw [List.append_assoc]; exact hcat, ?_, ?_, ?_, ?_⟩⟩
    · have hlen : (ρ.s 0).length + (ρ.s 1).length + (ρ.s 2).length ≤ M := by
        rw [h0, s1, s2]
        rw [← hcat] at hM
        simp only [List.flatMap_append, List.flatMap_cons, List.length_append] at hM
        omega
      have a0 : ρ.at 1 = ((ρ.s 0).length : Int) := ρ.at_l 0
      have a2 : ρ.at 9 = ((ρ.s 2).length : Int) := ρ.at_l 2
      have a3 : ρ.at 13 = ((ρ.s 3).length : Int) := ρ.at_l 3
      have a4 : ρ.at 17 = ((ρ.s 4).length : Int) := ρ.at_l 4
      have a5 : ρ.at 1000 = ρ.v 500 := ρ.at_v 500
      have v0 : ρ.v 500 = 0 := by rw [hag.v]; exact hv
      have l3 := b3 _ _ hc1
      have l4 := b4 _ _ hc1
      rw [← i3] at l3
      rw [← i4] at l4
      show Sat ρ (oneQ M)
      refine sat_cons ?_ (sat_cons ?_ (sat_cons ?_ (sat_cons ?_ (sat_cons ?_ (sat_cons ?_ (sat_cons ?_ (sat_cons ?_ (sat_cons ?_ sat_nil)))))))) <;> simp only [Lin.den, dts, a0, a2, a3, a4, a5, v0, Int.ofNat_eq_natCast] <;> omega
    · rw [(hJ.dn (σ := k.2.2)).2, h0]; simp
    · exact q3
    · exact q4
    · show denS ρ k.2.2.s5 = []
      rw [k5]; rfl
  · have hz : z1 = l := pre_inj (r1 := []) ne hc1 (List.append_nil l) (by rw [← i0, h0]; exact hY)
    subst hz
    exact ⟨f3.trans i3.symm, f4.trans i4.symm, by rw [f5, i5]; rfl⟩
/-- one class; what was gone through is kept -/
theorem ccN_ok (hv : ρ0.v 500 = 0) {M : Nat} {Y : Str} (hM : (denS ρ0 Y).length ≤ M) (h8 : (denS ρ0 Y).length ≤ 80) {vk : List Nat} {cl : PC} (hcl : ∀ b ∈ denS ρ0 Y, ∀ ρ, Agree ρ0 ρ → ρ.s 1 = [b] → Sat ρ cl) : ∃ I, CcR ρ0 (ccN M Y vk cl) enc1 (denS ρ0 Y) I :=
  ⟨_, ccq_ok hv (enc1_flat _).symm (by rw [enc1_flat]; exact hM) (fun b h => by cases h) (fun z => z) (fun _ => []) rfl rfl (fun z r h => by rw [← h, List.length_append] at h8; show z.length ≤ 80; omega) (fun z _ _ => Nat.zero_le _)
    (fun b hb => ⟨_, List.mem_singleton.2 rfl, rfl, fun ρ z hag h1 h3 h4 => ⟨by
      show denS ρ [.a 1] = [b]
      simp only [denS_cons, denS_nil, Pc.den, h1, List.append_nil]
      rfl, oneB1_ok h1 (hcl b hb ρ hag h1), by
      show denS ρ [.a 3, .a 1] = z ++ [b]
      simp only [denS_cons, denS_nil, Pc.den, h3, h1, List.append_nil]
      rfl, by
      show denS ρ [.a 4] = []
      simp only [denS_cons, denS_nil, Pc.den, h4, List.append_nil]⟩⟩) rfl rfl rfl⟩
/-- a backslash ahead of three bytes -/
def escB (b : UInt8) : List UInt8 := if b = 36 ∨ b = 125 ∨ b = 92 then [92, b] else [b]
def guardF (l : List UInt8) : List UInt8 := l.flatMap escB
theorem escB_ne (b : UInt8) : escB b ≠ [] := by unfold escB; split <;> simp
theorem escB_len (b : UInt8) : 1 ≤ (escB b).length ∧ (escB b).length ≤ 2 := by unfold escB; split <;> simp
theorem guardF_len (l : List UInt8) : l.length ≤ (guardF l).length ∧ (guardF l).length ≤ 2 * l.length := by
  induction l with
  | nil => exact ⟨Nat.le_refl _, Nat.le_refl _⟩
  | cons a l ih =>
    have e : guardF (a :: l) = escB a ++ guardF l := by simp [guardF]
    have := escB_len a
    rw [e, List.length_append, List.length_cons]
    omega
theorem guardF_app (z : List UInt8) (b : UInt8) : guardF (z ++ [b]) = guardF z ++ escB b := by simp [guardF]
theorem noBs_ok (h1 : ρ.s 1 = [b]) (h : ¬ (b = 36 ∨ b = 125 ∨ b = 92)) : Sat ρ noBs := by
  simp only [not_or] at h
  exact sat_cons (noB_ok h1 (by omega) h.1) (sat_cons (noB_ok h1 (by omega) h.2.1) (sat_cons (noB_ok h1 (by omega) h.2.2) sat_nil))
theorem ccS_ok (hv : ρ0.v 500 = 0) {Y f : Str} (h4 : (denS ρ0 Y).length ≤ 40) (hf : denS ρ0 f = guardF (denS ρ0 Y)) : ∃ I, CcR ρ0 (ccS Y f) enc1 (denS ρ0 Y) I := by
  refine ⟨_, ccq_ok hv (enc1_flat _).symm (by rw [enc1_flat]; omega) (fun b h => by cases h) guardF (fun _ => []) rfl rfl (fun z r h => by rw [← h, List.length_append] at h4; have := (guardF_len z).2; omega) (fun z _ _ => Nat.zero_le _) (fun b _ => ?_) hf rfl rfl⟩
  have spec : ∀ n : Nat, b.toNat = n → (b = 36 ∨ b = 125 ∨ b = 92) → (oneB1 (bvE n), pk1, shE) ∈ (ccS Y f).cl → ∃ k, k ∈ (ccS Y f).cl ∧ k.2.2.s5 = [] ∧ ∀ ρ z, Agree ρ0 ρ → ρ.s 1 = enc1 b → ρ.s 3 = guardF z → ρ.s 4 = [] → denS ρ k.2.1 = enc1 b ∧ Sat ρ k.1 ∧ denS ρ k.2.2.s3 = guardF (z ++ [b]) ∧ denS ρ k.2.2.s4 = [] := fun n hn hb hm =>
    ⟨_, hm, rfl, fun ρ z hag h1 h3 h4 => ⟨by
      show denS ρ [.a 1] = _
      simp only [denS_cons, denS_nil, Pc.den, h1, List.append_nil], oneB1_ok h1 (bvE_ok h1 (by rw [hag.v]; exact hv) hn), by
      rw [guardF_app, escB, if_pos hb]
      show denS ρ [.a 3, .c 92, .a 1] = _
      simp only [denS_cons, denS_nil, Pc.den, h3, h1, List.append_nil]
      rfl, by
      show denS ρ [.a 4] = []
      simp only [denS_cons, denS_nil, Pc.den, h4, List.append_nil]⟩⟩
  by_cases b1 : b = 36
  · exact spec 36 (by rw [b1]; rfl) (.inl b1) (by simp [ccS])
  by_cases b2 : b = 125
  · exact spec 125 (by rw [b2]; rfl) (.inr (.inl b2)) (by simp [ccS])
  by_cases b3 : b = 92
  · exact spec 92 (by rw [b3]; rfl) (.inr (.inr b3)) (by simp [ccS])
  · have hn : ¬ (b = 36 ∨ b = 125 ∨ b = 92) := by simp [b1, b2, b3]
    refine ⟨_, List.mem_cons_self, rfl, fun ρ z hag h1 h3 h4 => ⟨?_, oneB1_ok h1 (noBs_ok h1 hn), ?_, ?_⟩⟩
    · show denS ρ [.a 1] = _
      simp only [denS_cons, denS_nil, Pc.den, h1, List.append_nil]
    · rw [guardF_app, escB, if_neg hn]
      show denS ρ [.a 3, .a 1] = _
      simp only [denS_cons, denS_nil, Pc.den, h3, h1, List.append_nil]
      rfl
    · show denS ρ [.a 4] = []
      simp only [denS_cons, denS_nil, Pc.den, h4, List.append_nil]
theorem ccR_ok (hv : ρ0.v 500 = 0) {Y f : Str} (h4 : (denS ρ0 f).length ≤ 40) (hY : denS ρ0 Y = guardF (denS ρ0 f)) : ∃ I, CcR ρ0 (ccR Y f) escB (denS ρ0 f) I := by
  refine ⟨_, ccq_ok hv hY (by have := (guardF_len (denS ρ0 f)).2; show (guardF _).length ≤ 80; omega) escB_ne (fun z => z) (fun _ => []) rfl rfl (fun z r h => by rw [← h, List.length_append] at h4; show z.length ≤ 80; omega) (fun z _ _ => Nat.zero_le _) (fun b _ => ?_) rfl rfl rfl⟩
  have spec : ∀ n : Nat, b = UInt8.ofNat n → (b = 36 ∨ b = 125 ∨ b = 92) → ([], [.c 92, .c n], shC n) ∈ (ccR Y f).cl → ∃ k, k ∈ (ccR Y f).cl ∧ k.2.2.s5 = [] ∧ ∀ ρ z, Agree ρ0 ρ → ρ.s 1 = escB b → ρ.s 3 = z → ρ.s 4 = [] → denS ρ k.2.1 = escB b ∧ Sat ρ k.1 ∧ denS ρ k.2.2.s3 = z ++ [b] ∧ denS ρ k.2.2.s4 = [] := fun n hn hb hm =>
    ⟨_, hm, rfl, fun ρ z hag h1 h3 h4 => ⟨by
      show denS ρ [.c 92, .c n] = _
      rw [escB, if_pos hb, hn]
      rfl, sat_nil, by
      show denS ρ [.a 3, .c n] = _
      simp only [denS_cons, denS_nil, Pc.den, h3, hn, List.append_nil], by
      show denS ρ [.a 4] = []
      simp only [denS_cons, denS_nil, Pc.den, h4, List.append_nil]⟩⟩
  by_cases b1 : b = 36
  · exact spec 36 b1 (.inl b1) (by simp [ccR])
  by_cases b2 : b = 125
  · exact spec 125 b2 (.inr (.inl b2)) (by simp [ccR])
  by_cases b3 : b = 92
  · exact spec 92 b3 (.inr (.inr b3)) (by simp [ccR])
  · have hn : ¬ (b = 36 ∨ b = 125 ∨ b = 92) := by simp [b1, b2, b3]
    have he : escB b = [b] := by rw [escB, if_neg hn]
    refine ⟨_, List.mem_cons_self, rfl, fun ρ z hag h1 h3 h4 => ⟨?_, oneB1_ok (h1.trans he) (noBs_ok (h1.trans he) hn), ?_, ?_⟩⟩
    · show denS ρ [.a 1] = _
      simp only [denS_cons, denS_nil, Pc.den, h1, List.append_nil]
    · show denS ρ [.a 3, .a 1] = _
      simp only [denS_cons, denS_nil, Pc.den, h3, h1, he, List.append_nil]
    · show denS ρ [.a 4] = []
      simp only [denS_cons, denS_nil, Pc.den, h4, List.append_nil]
end
end X
end Go.Proofs.YtdbchpoaoghgpaaGreatDoor

set_option linter.unusedSimpArgs false
set_option linter.unusedVariables false
namespace Go.Proofs.YtdbchpoaoghgpaaGreatDoor
namespace X
open Go.RowKit B

/-! ### Facts that are shown ahead of a call -/
def provA (pc : PC) : PC → Bool
  | [] => true
  | e :: l => match proves pc e with
    | true => provA pc l
    | false => false
theorem provA_ok {ρ : Rho} {pc : PC} (hs : Sat ρ pc) : ∀ {l : PC}, provA pc l = true → Sat ρ l
  | [], _ => sat_nil
  | e :: l, h => by
    simp only [provA] at h
    split at h
    · rename_i hp; exact sat_cons (proves_ok hp hs) (provA_ok hs h)
    · cases h
/-- facts are shown, and forgotten behind the call -/
def factS (fs : PC) (g : SumF) : SumF := fun args m nx pc K => match provA pc fs with
  | true => g args m nx (fs ++ pc) fun v m nx _ => K v m nx pc
  | false => false
section
variable {P : Program} {ρ ρ' : Rho} {f : Nat}
theorem CallR.pcs {args : List SV} {m : Mem} {nx : Nat} {r : O4} (h : CallR P ρ f args m nx r) {pc : PC} (hs : Sat ρ pc) : CallR P ρ f args m nx ⟨r.v, r.m, r.nx, pc⟩ := ⟨h.enter, hs, h.le, h.new, h.run⟩
theorem factS_ok {fs : PC} {g : SumF} (hg : CallY P ρ f g) : CallY P ρ f (factS fs g) := fun args m nx pc hs => by
  unfold factS
  split
  · rename_i h
    exact Yl.map (fun r : O4 => (⟨r.v, r.m, r.nx, pc⟩ : O4)) (hg args m nx (fs ++ pc) (sat_app (provA_ok hs h) hs)) fun r hr => hr.pcs hs
  · exact Yl.no
/-- one or the other, by what is asked for -/
theorem CallY.of {g : SumF} (h : ∀ args m nx pc, Sat ρ pc → ∃ h : SumF, CallY P ρ f h ∧ ∀ K, g args m nx pc K = h args m nx pc K) : CallY P ρ f g := fun args m nx pc hs => by
  obtain ⟨g', h1, h2⟩ := h args m nx pc hs
  refine Yl.sub (fun K hK => ?_) (h1 args m nx pc hs)
  rw [← h2]; exact hK
theorem CallY.no : CallY P ρ f (fun _ _ _ _ _ => false) := fun _ _ _ _ _ => Yl.no

/-! ### Unknowns that are not seen may be whatever they are -/
mutual
theorem mpV_id : ∀ v : SV, mpV (fun l => l) (fun e => e) v = v
  | .ag l => by rw [mpV, mpVs_id]
  | .tu l => by rw [mpV, mpVs_id]
  | .fn f a b => by rw [mpV, mpVs_id, mpVs_id]
  | .i k n => rfl
  | .x k e => rfl
  | .b b => rfl
  | .s l => rfl
  | .p t o => rfl
  | .np => rfl
  | .sl t o k c => rfl
  | .sb t l => rfl
  | .ns => rfl
  | .nf => rfl
  | .ni => rfl
  | .nm => rfl
  | .mp t => rfl
  | .su t => rfl
  | .g a b => rfl
  | .un => rfl
  | .sv t n => rfl
  | .pv t n => rfl
  | .sx t n => rfl
theorem mpVs_id : ∀ l : List SV, mpVs (fun l => l) (fun e => e) l = l
  | [] => rfl
  | v :: l => by rw [mpVs, mpV_id, mpVs_id]
end
theorem mpE_id : ∀ l : List (SV × SV × Nat), mpE (fun l => l) (fun e => e) l = l
  | [] => rfl
  | (a, b, n) :: l => by rw [mpE, mpV_id, mpV_id, mpE_id l]
theorem mpB_id (b : Blk) : mpB (fun l => l) (fun e => e) b = b := by
  cases b with
  | ce t l x => rw [mpB, mpVs_id]
  | bt t l => rfl
  | mp es c => rw [mpB, mpE_id]
  | ob t l => rfl
  | cv l => rw [mpB, mpVs_id]
  | cq n b => rfl
  | cx t n b => rfl
def visS (a : List Nat) : Str → Bool
  | [] => true
  | .c _ :: l => visS a l
  | .a i :: l => memN i a && visS a l
def visJ (a b : List Nat) (j : Nat) : Bool := match Nat.beq (Nat.mod j 4) 1 with
  | true => memN (Nat.div j 4) a
  | false => Nat.beq (Nat.mod j 2) 0 && memN (Nat.div j 2) b
/-- these alone are seen -/
def visK (a b : List Nat) (k : Known) : Bool := alVs (visS a) (onL (visJ a b)) k.a0 && alL (visS a) (onL (visJ a b)) k.l0 && alP (onL (visJ a b)) k.pc0 && alV (visS a) (onL (visJ a b)) k.v1 && alL (visS a) (onL (visJ a b)) k.l1 && alP (onL (visJ a b)) k.pc1
theorem visS_den {a : List Nat} (h : ∀ i, i ∈ a → ρ'.s i = ρ.s i) : ∀ {l : Str}, visS a l = true → denS ρ' l = denS ρ l
  | [], _ => rfl
  | .c n :: l, hl => by rw [denS_cons, denS_cons, visS_den h (show visS a l = true from hl)]; rfl
  | .a i :: l, hl => by
    simp only [visS, Bool.and_eq_true] at hl
    rw [denS_cons, denS_cons, visS_den h hl.2]
    show ρ'.s i ++ _ = ρ.s i ++ _
    rw [h i (memN_iff.1 hl.1)]
theorem visJ_at {a b : List Nat} (h : ∀ i, i ∈ a → ρ'.s i = ρ.s i) (hv : ∀ i, i ∈ b → ρ'.v i = ρ.v i) {j : Nat} (hj : visJ a b j = true) : ρ'.at j = ρ.at j := by
  unfold visJ at hj
  split at hj
  · rename_i hm
    have hm : j % 4 = 1 := Nat.eq_of_beq_eq_true hm
    obtain ⟨i, rfl⟩ : ∃ i, j = 4 * i + 1 := ⟨j / 4, by omega⟩
    have hj := memN_iff.1 hj
    rw [show Nat.div (4 * i + 1) 4 = i by show (4 * i + 1) / 4 = i; omega] at hj
    rw [Rho.at_l, Rho.at_l, h i hj]
  · simp only [Bool.and_eq_true] at hj
    have hm : j % 2 = 0 := Nat.eq_of_beq_eq_true hj.1
    obtain ⟨i, rfl⟩ : ∃ i, j = 2 * i := ⟨j / 2, by omega⟩
    have hj := memN_iff.1 hj.2
    rw [show Nat.div (2 * i) 2 = i by show 2 * i / 2 = i; omega] at hj
    rw [Rho.at_v, Rho.at_v, hv i hj]
theorem vis_mp {a b : List Nat} (h : ∀ i, i ∈ a → ρ'.s i = ρ.s i) (hv : ∀ i, i ∈ b → ρ'.v i = ρ.v i) : MpOk ρ ρ' (fun l => l) (fun e => e) (visS a) (onL (visJ a b)) :=
  ⟨fun l hl => visS_den h hl, fun e he => by
    have := sbL_den (ρ := ρ) (ρ' := ρ') (f := fun i => .mk 0 [(i, 1)]) (p := visJ a b) (fun i hi => by
      simp only [Lin.den, dts]
      rw [visJ_at h hv hi]; omega) he
    rw [← this]
    have id : ∀ (l : List (Nat × Int)) (r : Lin), (sbT (fun i => .mk 0 [(i, 1)]) l r).den ρ' = r.den ρ' + dts ρ' l := fun l r => sbT_den (ρ := ρ') (p := fun _ => true) (fun i _ => by simp only [Lin.den, dts]; omega) (by
      induction l with
      | nil => rfl
      | cons x l ih => exact ih)
    cases e with
    | mk c l =>
      show c + dts ρ' l = (sbT (fun i => .mk 0 [(i, 1)]) l (.mk c [])).den ρ'
      rw [id, const_den]⟩
theorem KnownOk.vis {k : Known} {a b : List Nat} (hk : visK a b k = true) (hl0 : mkK k.l0 .lf (fun _ => true) = true) (hl1 : mkK k.l1 .lf (fun _ => true) = true) (h : ∀ i, i ∈ a → ρ'.s i = ρ.s i) (hv : ∀ i, i ∈ b → ρ'.v i = ρ.v i) (hK : KnownOk P f k ρ) : KnownOk P f k ρ' := fun h0 => by
  simp only [visK, Bool.and_eq_true] at hk
  obtain ⟨⟨⟨⟨⟨k1, k2⟩, k3⟩, k4⟩, k5⟩, k6⟩ := hk
  have hm := vis_mp (ρ := ρ) (ρ' := ρ') h hv
  have idP : ∀ l : PC, mpP (fun e => e) l = l := fun l => by
    induction l with
    | nil => rfl
    | cons x l ih => rw [mpP, ih]
  have s0 : Sat ρ k.pc0 := (mpP_ok hm k3).1 (by rw [idP]; exact h0)
  have hc := hK s0
  have s1 : Sat ρ' k.pc1 := by
    have := (mpP_ok hm k6).2 hc.pc
    rwa [idP] at this
  have mid : ∀ (m : Mem) t, m.get t = (m.get t).map (mpB (fun l => l) (fun e => e)) := fun m t => by
    cases m.get t with
    | none => rfl
    | some b => rw [Option.map_some, mpB_id]
  have := CallR.mp hm hc s1 k1 k4 (mid _) (mid _) (fun t b hb => alL_ok k2 t b ((mkK_told hl0).2 t b hb)) (fun t b hb => alL_ok k5 t b ((mkK_told hl1).2 t b hb))
  rwa [mpVs_id, mpV_id] at this

/-! ### A row of new memory, whatever it is -/
def looseEnd (l1 : ML) (hi : Nat) (v : SV) (m : Mem) (nx : Nat) (pc : PC) : Bool := match v with
  | .tu [.sl _ 0 n (.q _), .i .i64 (.ofNat 0)] => Nat.ble n 1000 && Nat.ble nx hi && allL (fun t b => eqBlk (m.get t) (some b)) l1
  | _ => false
def looseV (hi : Nat) : SV := .tu [.su hi, .i .i64 (.ofNat 0)]
theorem CallR.loose {args : List SV} {m0 : Mem} {nx0 : Nat} {r : O4} {l1 : ML} {hi : Nat} (h : CallR P ρ f args m0 nx0 r) (hl : mkK l1 .lf (fun _ => true) = true) (he : looseEnd l1 hi r.v r.m r.nx r.pc = true) : CallR P ρ f args m0 nx0 ⟨looseV hi, mkU l1 .lf, hi + 1, []⟩ := by
  unfold looseEnd at he
  split at he
  · rename_i t n z hv
    simp only [Bool.and_eq_true, Nat.ble_eq] at he
    obtain ⟨⟨e1, e2⟩, e3⟩ := he
    have e3 := allL_ok e3
    have told := (mkK_told hl).2
    have sub : ∀ t b, (mkU l1 .lf).get t = some b → r.m.get t = some b := fun t b hb => eqBlk_ok (e3 t b (told t b hb))
    have ne : ∀ t, (mkU l1 .lf).get t ≠ none → r.m.get t ≠ none := fun t ht => by
      cases hb : (mkU l1 .lf).get t with
      | none => exact absurd hb ht
      | some b => rw [sub t b hb]; simp
    have hle := h.le
    refine ⟨h.enter, sat_nil, by show nx0 ≤ hi + 1; omega, fun t h1 h2 => by have := h.new t h1 (ne t h2); exact ⟨this.1, by show t < hi + 1; omega⟩, fun w θ vs hvs hM hfr => ?_⟩
    refine calls_mono (h.run w θ vs hvs hM fun t q1 q2 => hfr t q1 (by show t < hi + 1; omega)) fun e w' ⟨v, θ', h1, h2, h3⟩ => ?_
    rw [hv] at h3
    simp only [den, dens, Option.map_eq_some_iff, Option.bind_eq_some_iff, Option.some.injEq] at h3
    obtain ⟨us, ⟨u, ⟨g, g1, rfl⟩, us', h4, rfl⟩, rfl⟩ := h3
    have h4 : us' = [.int .i64 (Int.ofNat 0)] := by
      obtain ⟨a, b, c, d, e⟩ := h4
      simp_all
    have hno : θ' hi = none := by
      cases hq : θ' hi with
      | none => rfl
      | some x =>
        rcases h2.new hi (by rw [hq]; simp) with q | q
        · exact absurd (hfr hi (by omega) (by show hi < hi + 1; omega)) q
        · omega
    have up : ∀ u x, θ' u = some x → updT θ' hi (g.1, n + 18446744073709551616 * ((g.2 - 0) / z)) u = some x := fun u x hx => by
      unfold updT
      rw [if_neg fun e => by rw [e, hno] at hx; cases hx]
      exact hx
    have old : ∀ u, (mkU l1 .lf).get u ≠ none → updT θ' hi (g.1, n + 18446744073709551616 * ((g.2 - 0) / z)) u = θ' u := fun u hu => by
      unfold updT
      refine if_neg fun e => ?_
      have := ne u hu
      cases hb : r.m.get u with
      | none => exact absurd hb this
      | some b =>
        obtain ⟨g', c', x1, _⟩ := (h2.mem.holds u b hb).th
        rw [e, hno] at x1; cases x1
    refine ⟨_, updT θ' hi (g.1, n + 18446744073709551616 * ((g.2 - 0) / z)), h1, ⟨h2.le.trans up, fun u hu => ?_, ⟨fun u b hb => ?_, fun u1 u2 y c c' q1 q2 q3 q4 => ?_⟩, h2.ext, fun y ⟨u, c, q1, q2⟩ => ?_⟩, ?_⟩
    · by_cases e : u = hi
      · exact .inr ⟨by omega, by show u < hi + 1; omega⟩
      · have : θ' u ≠ none := by
          intro q
          refine hu ?_
          unfold updT
          rw [if_neg e]; exact q
        rcases h2.new u this with q | q
        · exact .inl q
        · exact .inr ⟨q.1, by show u < hi + 1; omega⟩
    · exact (h2.mem.holds u b (sub u b hb)).keep up (Ext.refl none' _) fun _ _ _ h => h
    · rw [old u1 q1] at q3
      rw [old u2 q2] at q4
      exact h2.mem.inj u1 u2 y c c' (ne u1 q1) (ne u2 q2) q3 q4
    · rw [old u q1] at q2
      exact h2.own y ⟨u, c, ne u q1, q2⟩
    · have e1 : updT θ' hi (g.1, n + 18446744073709551616 * ((g.2 - 0) / z)) hi = some (g.1, n + 18446744073709551616 * ((g.2 - 0) / z)) := by unfold updT; rw [if_pos rfl]
      have e2 : (n + 18446744073709551616 * ((g.2 - 0) / z)) % 18446744073709551616 = n := by omega
      have e3 : (n + 18446744073709551616 * ((g.2 - 0) / z)) / 18446744073709551616 = (g.2 - 0) / z := by omega
      rw [h4]
      simp only [looseV, den, dens, e1, e2, e3, Option.map_some, Option.bind_some, Cap.den]
  · cases he
/-- .. by the kernel -/
theorem loose_of (hm : P.follows .mixedOrders = true) {sm : SumT} (hsm : SumOk P ρ sm) {fuel hi : Nat} {a0 : List SV} {l0 l1 : ML} {nx0 : Nat} {pc0 : PC} (hl : mkK l1 .lf (fun _ => true) = true)
    (hk : mkK l0 .lf (fun m0 => callBy P sm (ev P sm fuel) f a0 m0 nx0 pc0 (looseEnd l1 hi)) = true) : KnownOk P f ⟨a0, l0, nx0, pc0, looseV hi, l1, hi + 1, []⟩ ρ := fun h0 => by
  obtain ⟨hk, _⟩ := mkK_told hk
  obtain ⟨r, q, he, _⟩ := callBy_ok hm hsm fuel f a0 _ nx0 pc0 h0 (fun r => looseEnd l1 hi r.v r.m r.nx r.pc) hk
  exact q.loose hl he
end
end X
end Go.Proofs.YtdbchpoaoghgpaaGreatDoor
