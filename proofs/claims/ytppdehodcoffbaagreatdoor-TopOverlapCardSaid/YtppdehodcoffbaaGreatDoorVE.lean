/-
  The executor: numbers, strings, operands. Over any program.
-/
import Derived.Test.YtppdehodcoffbaaGreatDoorVD
set_option linter.unusedSimpArgs false
set_option linter.unusedVariables false
namespace Go.Proofs.YtppdehodcoffbaaGreatDoor
namespace X
open Go.RowKit B

/-! ### Numbers -/
def ikEq : IntKind → IntKind → Bool
  | .i8, .i8 | .i16, .i16 | .i32, .i32 | .i64, .i64 | .u8, .u8 | .u16, .u16 | .u32, .u32 | .u64, .u64 => true
  | _, _ => false
/-- a number worked out -/
def frc (n : Int) (K : Int → Bool) : Bool := match n with
  | .ofNat a => match a with
    | 0 => K (.ofNat 0)
    | b + 1 => K (.ofNat (Nat.succ b))
  | .negSucc a => match a with
    | 0 => K (.negSucc 0)
    | b + 1 => K (.negSucc (Nat.succ b))
def frn (n : Nat) (K : Nat → Bool) : Bool := match n with
  | 0 => K 0
  | b + 1 => K (Nat.succ b)
def leI (p q : Int) : Bool := match p, q with
  | .ofNat a, .ofNat b => Nat.ble a b
  | .ofNat _, .negSucc _ => false
  | .negSucc _, .ofNat _ => true
  | .negSucc a, .negSucc b => Nat.ble b a
def eqI (p q : Int) : Bool := match p, q with
  | .ofNat a, .ofNat b => Nat.beq a b
  | .negSucc a, .negSucc b => Nat.beq a b
  | _, _ => false
/-- is it a number of the kind? (told for some) -/
def fits (k : IntKind) (n : Int) : Bool := match n with
  | .ofNat a => match k with
    | .i64 => Nat.ble a 9223372036854775807
    | .u64 => Nat.ble a 18446744073709551615
    | .u32 => Nat.ble a 4294967295
    | .u8 => Nat.ble a 255
    | _ => false
  | .negSucc a => match k with
    | .i64 => Nat.ble a 9223372036854775807
    | _ => false
def wrapF (k : IntKind) (n : Int) : Int := match fits k n with
  | true => n
  | false => k.wrap n

/-! ### Linear expressions -/
def addT : List (Nat × Int) → List (Nat × Int) → List (Nat × Int)
  | [], m => m
  | (i, a) :: l, m => put1 i a (addT l m)
where
  put1 (i : Nat) (a : Int) : List (Nat × Int) → List (Nat × Int)
    | [] => [(i, a)]
    | (j, b) :: m => match Nat.beq i j with
      | true => match eqI (a + b) 0 with
        | true => m
        | false => (j, a + b) :: m
      | false => match Nat.blt i j with
        | true => (i, a) :: (j, b) :: m
        | false => (j, b) :: put1 i a m
def Lin.add : Lin → Lin → Lin
  | .mk c l, .mk d m => .mk (c + d) (addT l m)
def mulT (k : Int) : List (Nat × Int) → List (Nat × Int)
  | [] => []
  | (i, a) :: l => (i, k * a) :: mulT k l
def Lin.mul (k : Int) : Lin → Lin
  | .mk c l => .mk (k * c) (mulT k l)
def Lin.sub (a b : Lin) : Lin := a.add (b.mul (-1))
/-- not (e >= 0) -/
def Lin.not (e : Lin) : Lin := (Lin.mk (-1) []).add (e.mul (-1))
abbrev PC := List Lin
def Sat (ρ : Rho) (pc : PC) : Prop := ∀ e ∈ pc, 0 ≤ e.den ρ
def coef (i : Nat) : List (Nat × Int) → Int
  | [] => 0
  | (j, a) :: l => match Nat.beq i j with
    | true => a
    | false => coef i l
def Lin.coef (i : Nat) : Lin → Int
  | .mk _ l => X.coef i l
/-- p with a factor a > 0 of i, q with b < 0: without i -/
def comb1 (a : Int) (p : Lin) (i : Nat) : List Lin → List Lin
  | [] => []
  | q :: l => match leI 0 (q.coef i) with
    | true => comb1 a p i l
    | false => ((p.mul (-(q.coef i))).add (q.mul a)) :: comb1 a p i l
def combs (i : Nat) (all : List Lin) : List Lin → List Lin
  | [] => []
  | p :: l => match leI (p.coef i) 0 with
    | true => combs i all l
    | false => comb1 (p.coef i) p i all ++ combs i all l
def without (i : Nat) : List Lin → List Lin
  | [] => []
  | p :: l => match eqI (p.coef i) 0 with
    | true => p :: without i l
    | false => without i l
def pickV : List Lin → Option Nat
  | [] => none
  | .mk _ [] :: l => pickV l
  | .mk _ ((i, _) :: _) :: _ => some i
def absurdL : List Lin → Bool
  | [] => false
  | .mk c [] :: l => match leI 0 c with
    | true => absurdL l
    | false => true
  | _ :: l => absurdL l
/-- can they not all be at least 0? -/
def fm : Nat → List Lin → Bool
  | 0, l => absurdL l
  | f + 1, l => match absurdL l with
    | true => true
    | false => match pickV l with
      | none => false
      | some i => fm f (combs i l l ++ without i l)
def proves (pc : PC) (e : Lin) : Bool := fm 8 (e.not :: pc)
/-- is e at least 0? both ways, if that is not known -/
def dec2 (pc : PC) (e : Lin) (K : Bool → PC → Bool) : Bool := match e with
  | .mk c [] => K (leI 0 c) pc
  | e => match proves pc e with
    | true => K true pc
    | false => match proves pc e.not with
      | true => K false pc
      | false => K true (e :: pc) && K false (e.not :: pc)
def svx (k : IntKind) (e : Lin) : SV := match e with
  | .mk c [] => .i k c
  | e => .x k e

/-! ### Strings -/
def lenS : Str → Lin
  | [] => .mk 0 []
  | .c _ :: l => (Lin.mk 1 []).add (lenS l)
  | .a i :: l => (Lin.mk 0 [(4 * i + 1, 1)]).add (lenS l)
/-- how many bytes, if all are known -/
def lenN : Str → Nat → Option Nat
  | [], n => some n
  | .c _ :: l, n => lenN l (Nat.succ n)
  | .a _ :: _, _ => none
def eqP : Pc → Pc → Bool
  | .c a, .c b => Nat.beq a b
  | .a i, .a j => Nat.beq i j
  | _, _ => false
def eqStr : Str → Str → Bool
  | [], [] => true
  | a :: l, b :: m => match eqP a b with
    | true => eqStr l m
    | false => false
  | _, _ => false
def knownS : Str → Bool
  | [] => true
  | .c n :: l => match Nat.ble n 255 with
    | true => knownS l
    | false => false
  | .a _ :: _ => false
/-- are two strings the same? -/
def eqS (pc : PC) (a b : Str) (K : Bool → Bool) : Bool := match eqStr a b with
  | true => K true
  | false => match knownS a && knownS b with
    | true => K false
    | false => match proves pc ((lenS a).sub (lenS b)).not with
      | true => K false
      | false => match proves pc ((lenS b).sub (lenS a)).not with
        | true => K false
        | false => false
def ltStr : Str → Str → Bool
  | _, [] => false
  | [], _ :: _ => true
  | .c a :: l, .c b :: m => match Nat.blt a b with
    | true => true
    | false => match Nat.beq a b with
      | true => ltStr l m
      | false => false
  | _, _ => false
/-- the first n bytes, the others -/
def cutN : Str → Nat → (Str → Str → Bool) → Bool
  | l, 0, K => K [] l
  | .c a :: l, n + 1, K => cutN l n fun x y => K (.c a :: x) y
  | _, _ + 1, _ => false
/-- .. where e is the number -/
def cutL : Str → Lin → (Str → Str → Bool) → Bool
  | [], .mk c [], K => match eqI c 0 with
    | true => K [] []
    | false => false
  | .c a :: l, .mk c [], K => match eqI c 0 with
    | true => K [] (.c a :: l)
    | false => cutL l (Lin.mk (c - 1) []) fun x y => K (.c a :: x) y
  | .a i :: l, .mk c [], K => match eqI c 0 with
    | true => K [] (.a i :: l)
    | false => false
  | .a i :: l, .mk c ts, K => cutL l ((Lin.mk c ts).add (.mk 0 [(4 * i + 1, -1)])) fun x y => K (.a i :: x) y
  | .c a :: l, .mk c ts, K => cutL l (Lin.mk (c - 1) ts) fun x y => K (.c a :: x) y
  | [], .mk _ (_ :: _), _ => false
def nthS : Str → Nat → (Nat → Bool) → Bool
  | .c a :: _, 0, K => match Nat.ble a 255 with
    | true => K a
    | false => false
  | .c _ :: l, n + 1, K => nthS l n K
  | _, _, _ => false
def appS : Str → Str → (Str → Bool) → Bool
  | [], m, K => K m
  | a :: l, m, K => appS l m fun r => K (a :: r)

/-! ### Lists of things -/
def nthC : List SV → Nat → (SV → Bool) → Bool
  | [], _, _ => false
  | a :: _, 0, K => K a
  | _ :: l, i + 1, K => nthC l i K
def takeC : List SV → Nat → (List SV → Bool) → Bool
  | _, 0, K => K []
  | [], _ + 1, _ => false
  | a :: l, n + 1, K => takeC l n fun r => K (a :: r)
def dropC : List SV → Nat → (List SV → Bool) → Bool
  | l, 0, K => K l
  | [], _ + 1, _ => false
  | _ :: l, n + 1, K => dropC l n K
def segC (l : List SV) (o n : Nat) (K : List SV → Bool) : Bool := dropC l o fun l => takeC l n K
def ovrC : List SV → List SV → (List SV → Bool) → Bool
  | l, [], K => K l
  | [], _ :: _, _ => false
  | _ :: l, v :: vs, K => ovrC l vs fun r => K (v :: r)
def setC : List SV → Nat → List SV → (List SV → Bool) → Bool
  | l, 0, vs, K => ovrC l vs K
  | [], _ + 1, _, _ => false
  | a :: l, o + 1, vs, K => setC l o vs fun r => K (a :: r)
def appC : List SV → List SV → (List SV → Bool) → Bool
  | [], m, K => K m
  | a :: l, m, K => appC l m fun r => K (a :: r)
def lenC : List SV → Nat → Nat
  | [], n => n
  | _ :: l, n => lenC l (Nat.succ n)
/-- cells of a value -/
def cellsV : SV → List SV
  | .ag l => l
  | v => [v]
def oneV : SV → Bool
  | .ag _ | .tu _ | .un => false
  | _ => true
def allOne : List SV → Bool
  | [] => true
  | v :: l => match oneV v with
    | true => allOne l
    | false => false

/-! ### Constants, operands -/
def strC : List UInt8 → (Str → Bool) → Bool
  | [], K => K []
  | b :: l, K => frn b.toNat fun n => strC l fun r => K (.c n :: r)
def cst : Value → Option SV
  | .int k n => some (.i k n)
  | .bool b => some (.b b)
  | .string s => some (.s (s.data.toList.map fun b => .c b.toNat))
  | .pointer none => some .np
  | .slice none 0 0 => some .ns
  | .nilFunc => some .nf
  | .nilIface => some .ni
  | .map none => some .nm
  | _ => none
def cstL : List Value → Option (List SV)
  | [] => some []
  | v :: l => match cst v with
    | none => none
    | some a => match cstL l with
      | none => none
      | some r => some (a :: r)
def cstK (v : Value) (K : SV → Bool) : Bool := match v with
  | .int k n => K (.i k n)
  | .bool b => match b with
    | true => K (.b true)
    | false => K (.b false)
  | .string s => strC s.data.toList fun l => K (.s l)
  | .pointer none => K .np
  | .slice none 0 0 => K .ns
  | .nilFunc => K .nf
  | .nilIface => K .ni
  | .map none => K .nm
  | .agg cs => match cstL cs.toList with
    | some l => K (.ag l)
    | none => false
  | _ => false
def evO (s : Tr SV) (x : Operand) (K : SV → Bool) : Bool := match x with
  | .tmp t => match s.get t with
    | some v => K v
    | none => false
  | .const v => cstK v K
  | .func f => K (.fn f [] [])
  | .global g => K (.g g 0)
def evL (s : Tr SV) : List Operand → (List SV → Bool) → Bool
  | [], K => K []
  | x :: l, K => evO s x fun v => evL s l fun vs => K (v :: vs)

/-! ### Types -/
inductive TK where
  | int (k : IntKind)
  | bool
  | str
  | slice (e : Nat)
  | ptr (e : Nat)
  | struct (fs : List (Nat × Nat))
  | arr (n e : Nat)
  | map (k v : Nat)
  | fn
  | upt
  | other
structure Ty where
  sz : Nat
  agg : Bool
  by' : Nat
  kind : TK
  zero : List SV
def tkOf : TypeDesc → TK
  | .int k => .int k
  | .bool => .bool
  | .string => .str
  | .slice e => .slice e
  | .pointer e => .ptr e
  | .struct fs => .struct (fs.toList.map fun f => (f.offset, f.type))
  | .array n e => .arr n e
  | .map k v => .map k v
  | .func .. => .fn
  | .unsafePointer => .upt
  | _ => .other
def isAggD : TypeDesc → Bool
  | .struct _ | .array _ _ => true
  | _ => false
def isAggV : Value → Bool
  | .agg _ => true
  | _ => false
def mkTy (P : Program) (t : Nat) : Option Ty := match P.info? t with
  | none => none
  | some i => match P.underlying t with
    | none => none
    | some d => match i.zero with
      | none => none
      | some z => match cstL z.cells.toList with
        | none => none
        | some zs => match Nat.beq z.cells.size i.size && (isAggV z == isAggD d) with
          | true => some ⟨i.size, isAggD d, i.bytes, tkOf d, zs⟩
          | false => none
end X
end Go.Proofs.YtppdehodcoffbaaGreatDoor
