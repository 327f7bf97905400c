/-
  The executor: regions, code, calls. Over any program.
-/
import Derived.Test.YtppdehodcoffbaaGreatDoorVF
set_option linter.unusedSimpArgs false
set_option linter.unusedVariables false
namespace Go.Proofs.YtppdehodcoffbaaGreatDoor
namespace X
open Go.RowKit B

/-! ### Guards -/
def dstAt : List Oper → Nat → Option Nat
  | [], _ => none
  | o :: _, 0 => o.dst
  | _ :: l, i + 1 => dstAt l i
def ex1 (P : Program) (call : CallT) (ops : List Oper) (s : Tr SV) (m : Mem) (nx : Nat) (pc : PC) (o : Oper) (K : KK) : Bool := match o.guard with
  | none => opx P call s m nx pc o K
  | some (j, want) => match dstAt ops j with
    | some d => match s.get d with
      | some (.b b) => match b, want with
        | true, true => opx P call s m nx pc o K
        | false, false => opx P call s m nx pc o K
        | _, _ => K .un m nx pc .n
      | some .un => K .un m nx pc .n
      | _ => false
    | none => false
def putS (s : Tr SV) (d : Option Nat) (v : SV) (K : Tr SV → Bool) : Bool := match d with
  | none => K s
  | some d => s.set d (some v) K

/-! ### Regions -/
abbrev KR := Tr SV → Mem → Nat → PC → Bool
def exS (P : Program) (call : CallT) (ops : List Oper) : List Oper → Tr SV → Mem → Nat → PC → KR → Bool
  | [], s, m, nx, pc, K => K s m nx pc
  | o :: l, s, m, nx, pc, K => ex1 P call ops s m nx pc o fun v m nx pc _ => putS s o.dst v fun s => exS P call ops l s m nx pc K
structure FE where
  i : Nat
  ft : Ft
  m0 : Mem
  m1 : Mem
def exD (P : Program) (call : CallT) (ops : List Oper) : List Oper → Nat → Tr SV → Mem → Nat → PC → List FE → (Tr SV → Mem → Nat → PC → List FE → Bool) → Bool
  | [], _, s, m, nx, pc, acc, K => K s m nx pc acc
  | o :: l, i, s, m, nx, pc, acc, K => ex1 P call ops s m nx pc o fun v m' nx pc ft => putS s o.dst v fun s => match ft with
    | .n => exD P call ops l (Nat.succ i) s m' nx pc acc K
    | ft => exD P call ops l (Nat.succ i) s m' nx pc (⟨i, ft, m, m'⟩ :: acc) K
def eqTs : List (Nat × Int) → List (Nat × Int) → Bool
  | [], [] => true
  | (i, a) :: l, (j, b) :: m => Nat.beq i j && eqI a b && eqTs l m
  | _, _ => false
def eqLin : Lin → Lin → Bool
  | .mk c l, .mk d m => eqI c d && eqTs l m
mutual
def eqV : SV → SV → Bool
  | .i k p, .i j q => ikEq k j && eqI p q
  | .x k p, .x j q => ikEq k j && eqLin p q
  | .b a, .b b => a == b
  | .s a, .s b => eqStr a b
  | .p t i, .p u j => Nat.beq t u && Nat.beq i j
  | .np, .np => true
  | .sl t o n c, .sl t' o' n' c' => Nat.beq t t' && Nat.beq o o' && Nat.beq n n' && (match c, c' with
    | .k a, .k b => Nat.beq a b
    | .q a, .q b => Nat.beq a b
    | _, _ => false)
  | .sb t l, .sb t' l' => Nat.beq t t' && eqStr l l'
  | .ns, .ns => true
  | .ag l, .ag m => eqVs l m
  | .tu l, .tu m => eqVs l m
  | .fn f a b, .fn g c d => Nat.beq f g && eqVs a c && eqVs b d
  | .nf, .nf => true
  | .ni, .ni => true
  | .nm, .nm => true
  | .mp t, .mp u => Nat.beq t u
  | .g a b, .g c d => Nat.beq a c && Nat.beq b d
  | .un, .un => true
  | _, _ => false
def eqVs : List SV → List SV → Bool
  | [], [] => true
  | a :: l, b :: m => eqV a b && eqVs l m
  | _, _ => false
end
def eqEs : List (SV × SV × Nat) → List (SV × SV × Nat) → Bool
  | [], [] => true
  | (a, b, n) :: l, (c, d, k) :: m => eqV a c && eqV b d && Nat.beq n k && eqEs l m
  | _, _ => false
def eqBlk : Option Blk → Option Blk → Bool
  | none, none => true
  | some (.ce t a x), some (.ce u b y) => Nat.beq t u && eqVs a b && (x == y)
  | some (.bt t a), some (.bt u b) => Nat.beq t u && eqStr a b
  | some (.mp a c), some (.mp b d) => eqEs a b && Nat.beq c d
  | _, _ => false
def memN (t : Nat) : List Nat → Bool
  | [] => false
  | k :: l => match Nat.beq k t with
    | true => true
    | false => memN t l
def apartN : List Nat → List Nat → Bool
  | [], _ => true
  | t :: l, m => !memN t m && apartN l m
def newTo (m0 m1 : Mem) : List Nat → Bool
  | [] => true
  | t :: l => match m0.get t, m1.get t with
    | none, none => newTo m0 m1 l
    | _, _ => false
def indFt (a b : FE) : Bool := match a.ft, b.ft with
  | .n, _ => true
  | _, .n => true
  | .r _, .r _ => true
  | .r t, .w ts => !memN t ts
  | .w ts, .r t => !memN t ts
  | .w ts, .w us => apartN ts us
  | .c, .r t => eqBlk (a.m0.get t) (a.m1.get t)
  | .r t, .c => eqBlk (b.m0.get t) (b.m1.get t)
  | .c, .w ts => newTo a.m0 a.m1 ts
  | .w ts, .c => newTo b.m0 b.m1 ts
  | .c, .c => false
/-- x (of the place i) and those ahead of it -/
def okWith (bf : List Nat) (x : FE) : List FE → Bool
  | [] => true
  | y :: l => (((bf.getD x.i 0).testBit y.i) || indFt y x) && okWith bf x l
def okAcc (bf : List Nat) : List FE → Bool
  | [] => true
  | x :: l => okWith bf x l && okAcc bf l
/-- slots alone: may two operations change places? -/
def okSlot (ops : List Oper) (x y : Oper) : Bool := match x.dst with
  | none => (match y.dst with
    | none => true
    | some e => !memN e (reads ops.toArray x))
  | some d => !memN d (reads ops.toArray y) && (match y.dst with
    | none => true
    | some e => !Nat.beq d e && !memN e (reads ops.toArray x))
def okSlF (ops : List Oper) (bf : List Nat) (x : Oper) (i : Nat) : List Oper → Nat → Bool
  | [], _ => true
  | y :: l, j => (((bf.getD j 0).testBit i) || okSlot ops x y) && okSlF ops bf x i l (Nat.succ j)
def okSls (ops : List Oper) (bf : List Nat) : List Oper → Nat → Bool
  | [], _ => true
  | x :: l, i => okSlF ops bf x i l (Nat.succ i) && okSls ops bf l (Nat.succ i)
def bfOf (ops : List Oper) : List Nat := (Region.before ops.toArray).toList
/-- a region's form, once for all -/
def okForm (ops : List Oper) : Bool := okAft ops.toArray && okBf ops.toArray (bfOf ops) && okSls ops (bfOf ops) ops 0
def exR (P : Program) (call : CallT) (ops : List Oper) (draw : Bool) (s : Tr SV) (m : Mem) (nx : Nat) (pc : PC) (K : KR) : Bool := match draw with
  | false => exS P call ops ops s m nx pc K
  | true => match okForm ops with
    | true => exD P call ops ops 0 s m nx pc [] fun s m nx pc acc => match okAcc (bfOf ops) acc with
      | true => K s m nx pc
      | false => false
    | false => false

/-! ### Code -/
inductive AX where
  | normal
  | exit (id : Nat)
  | ret
abbrev KC := AX → Tr SV → Mem → Nat → PC → Bool
def argC : List SV → Nat → Tr SV → (Tr SV → Bool) → Bool
  | [], _, s, K => K s
  | v :: l, i, s, K => s.set i (some v) fun s => argC l (Nat.succ i) s K
def resC (P : Program) (s : Tr SV) (m : Mem) : List ResultVar → (List SV → Bool) → Bool
  | [], K => K []
  | .tmp t :: l, K => match s.get t with
    | some v => resC P s m l fun r => K (v :: r)
    | none => false
  | .cell a t :: l, K => match mkTy P t, s.get a with
    | some y, some (.p g off) => match m.get g with
      | some (.ce _ cs _) => partC y cs off fun v => resC P s m l fun r => K (v :: r)
      | _ => false
    | _, _ => false
def retV : List SV → SV
  | [v] => v
  | l => .tu l
def dstOk (n : Nat) : Code → Bool
  | .region _ ops _ => ops.toList.all fun o => match o.dst with | some d => Nat.ble (Nat.succ d) n | none => true
  | .seq a b => dstOk n a && dstOk n b
  | .cond _ a b => dstOk n a && dstOk n b
  | .block _ c => dstOk n c
  | .loop c => dstOk n c
  | _ => true
abbrev SumT := Nat → Option (List SV → Mem → Nat → PC → (SV → Mem → Nat → PC → Bool) → Bool)
def callBy (P : Program) (sm : SumT) (E : Code → Tr SV → Mem → Nat → PC → KC → Bool) : CallT := fun f args m nx pc K => match sm f with
  | some h => h args m nx pc K
  | none => match P.funcs[f]? with
    | some fn => match fn.body with
      | some c => match !(fn.name == "runtime.NumGoroutine") && Nat.ble args.length fn.ntmps && dstOk fn.ntmps c with
        | true => argC args 0 .lf fun s => E c s m nx pc fun e s m nx pc => match e with
          | .exit _ => false
          | _ => resC P s m fn.results.toList fun vs => K (retV vs) m nx pc
        | false => false
      | none => false
    | none => false
def ev (P : Program) (sm : SumT) : Nat → Code → Tr SV → Mem → Nat → PC → KC → Bool
  | 0, _, _, _, _, _, _ => false
  | f + 1, c, s, m, nx, pc, K => match c with
    | .skip => K .normal s m nx pc
    | .label _ => K .normal s m nx pc
    | .region _ ops draw => exR P (callBy P sm (ev P sm f)) ops.toList draw s m nx pc fun s m nx pc => K .normal s m nx pc
    | .seq a b => ev P sm f a s m nx pc fun e s m nx pc => match e with
      | .normal => ev P sm f b s m nx pc K
      | e => K e s m nx pc
    | .cond c a b => evO s c fun v => match v with
      | .b t => match t with
        | true => ev P sm f a s m nx pc K
        | false => ev P sm f b s m nx pc K
      | _ => false
    | .block id c => ev P sm f c s m nx pc fun e s m nx pc => match e with
      | .exit i => match Nat.beq i id with
        | true => K .normal s m nx pc
        | false => K (.exit i) s m nx pc
      | e => K e s m nx pc
    | .loop c => ev P sm f c s m nx pc fun e s m nx pc => match e with
      | .normal => ev P sm f (.loop c) s m nx pc K
      | e => K e s m nx pc
    | .exit id => K (.exit id) s m nx pc
    | .ret => K .ret s m nx pc
    | _ => false

/-! ### Keys of a map, sorted -/
def insI (n : Int) : List Int → List Int
  | [] => [n]
  | k :: l => match leI n k with
    | true => n :: k :: l
    | false => k :: insI n l
def keysI : List (SV × SV × Nat) → (List Int → Bool) → Bool
  | [], K => K []
  | (.i .i64 n, _, _) :: l, K => keysI l fun r => K (insI n r)
  | _, _ => false
def svI : List Int → (List SV → Bool) → Bool
  | [], K => K []
  | n :: l, K => svI l fun r => K (.i .i64 n :: r)
def notIn (n : Int) (b : Nat) : List (SV × SV × Nat) → Bool
  | [] => true
  | (.i .i64 k, _, c) :: l => !eqI n k && !Nat.beq b c && notIn n b l
  | _ => false
/-- numbers as keys, each once; when each came -/
def mapOk : List (SV × SV × Nat) → Nat → Bool
  | [], _ => true
  | (.i .i64 n, _, b) :: l, ck => leI (-9223372036854775808) n && leI n 9223372036854775807 && Nat.blt b ck && notIn n b l && mapOk l ck
  | _, _ => false
/-- ks: the functions that maps.Keys makes; e: the keys' type -/
def sortedKeys (ks : List Nat) (e : Nat) (args : List SV) (m : Mem) (nx : Nat) (pc : PC) (K : SV → Mem → Nat → PC → Bool) : Bool := match args with
  | [.fn f [] [.p t 0]] => match memN f ks with
    | true => match m.get t with
      | some (.ce _ [.nm] _) => K .ns m nx pc
      | some (.ce _ [.mp g] _) => match m.get g with
        | some (.mp es ck) => match mapOk es ck && Nat.ble es.length 1000 with
          | true => keysI es fun l => match l with
            | [] => K .ns m nx pc
            | l => svI l fun cs => newB m nx (.ce e cs false) fun m nx' => frn (lenC cs 0) fun n => K (.sl nx 0 n (.q 1)) m nx' pc
          | false => false
        | _ => false
      | _ => false
    | false => false
  | _ => false
end X
end Go.Proofs.YtppdehodcoffbaaGreatDoor
