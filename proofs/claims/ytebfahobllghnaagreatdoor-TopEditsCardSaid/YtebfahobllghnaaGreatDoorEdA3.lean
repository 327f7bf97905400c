/-
  TopEdits: VF, VG.
-/
import Derived.Test.YtebfahobllghnaaGreatDoorEdA2
set_option linter.unusedSimpArgs false
set_option linter.unusedVariables false
namespace Go.Proofs.YtebfahobllghnaaGreatDoor
namespace X
open Go.RowKit B
abbrev Mem := Tr Blk
inductive Ft where
  | n
  | r (t : Nat)
  | w (ts : List Nat)
  | c
abbrev KK := SV → Mem → Nat → PC → Ft → Bool
abbrev CallT := Nat → List SV → Mem → Nat → PC → (SV → Mem → Nat → PC → Bool) → Bool
def newB (m : Mem) (nx : Nat) (b : Blk) (K : Mem → Nat → Bool) : Bool := frn nx fun nx => m.set nx (some b) fun m => K m (Nat.succ nx)
def wrK (k : IntKind) (n : Int) (K : SV → Bool) : Bool := frc n fun n => match fits k n with
  | true => K (.i k n)
  | false => frc (k.wrap n) fun n => K (.i k n)
def in64 (pc : PC) (e : Lin) : Bool := match e with
  | .mk c [] => leI (-9223372036854775808) c && leI c 9223372036854775807
  | e => proves pc (e.add (.mk 9223372036854775808 [])) && proves pc ((Lin.mk 9223372036854775807 []).sub e)
def binI (op : BinOp) (k : IntKind) (p q : Int) (K : SV → Bool) : Bool := match op with
  | .lss => K (.b (!leI q p))
  | .leq => K (.b (leI p q))
  | .gtr => K (.b (!leI p q))
  | .geq => K (.b (leI q p))
  | .eql => K (.b (eqI p q))
  | .neq => K (.b (!eqI p q))
  | .add => wrK k (p + q) K
  | .sub => wrK k (p - q) K
  | .mul => wrK k (p * q) K
  | .quo => match eqI q 0 with
    | true => false
    | false => wrK k (p.tdiv q) K
  | .rem => match eqI q 0 with
    | true => false
    | false => frc (p.tmod q) fun n => K (.i k n)
  | .and => wrK k (BitVec.ofInt k.bits p &&& BitVec.ofInt k.bits q).toNat K
  | .or => wrK k (BitVec.ofInt k.bits p ||| BitVec.ofInt k.bits q).toNat K
  | .xor => wrK k (BitVec.ofInt k.bits p ^^^ BitVec.ofInt k.bits q).toNat K
  | _ => false
def shI (op : BinOp) (k : IntKind) (p q : Int) (K : SV → Bool) : Bool := match leI 0 q with
  | true => match op with
    | .shl => wrK k (p * 2 ^ (min q.toNat k.bits)) K
    | .shr => frc (p.fdiv (2 ^ (min q.toNat k.bits))) fun n => K (.i k n)
    | _ => false
  | false => false
def one1 (pc : PC) (i : Nat) : Bool := Nat.blt i 16 && zeroL pc (.mk (-1) [(Nat.add (Nat.mul 4 i) 1, 1)]) && zeroL pc (.mk 0 [(1000, 1)])
def neB (pc : PC) (j n : Nat) : Bool := Nat.beq (Nat.mod j 8) 3 && Nat.beq (Nat.div j 128) 500 && one1 pc (Nat.mod (Nat.div j 8) 16) && notB pc (Nat.mod (Nat.div j 8) 16) n
def byteNe (op : BinOp) (p : Lin) (q : Int) (pc : PC) : Bool := match p, q, op with
  | .mk 0 [(j, 1)], .ofNat n, .eql => neB pc j n
  | .mk 0 [(j, 1)], .ofNat n, .neq => neB pc j n
  | _, _, _ => false
def linX (op : BinOp) (k : IntKind) (p q : Lin) (pc : PC) (K : SV → PC → Bool) : Bool := match op with
  | .lss => dec2 pc (p.sub q) fun b pc => K (.b (!b)) pc
  | .leq => dec2 pc (q.sub p) fun b pc => K (.b b) pc
  | .gtr => dec2 pc (q.sub p) fun b pc => K (.b (!b)) pc
  | .geq => dec2 pc (p.sub q) fun b pc => K (.b b) pc
  | .eql => dec2 pc (p.sub q) fun b pc => match b with
    | true => dec2 pc (q.sub p) fun b pc => K (.b b) pc
    | false => K (.b false) pc
  | .neq => dec2 pc (p.sub q) fun b pc => match b with
    | true => dec2 pc (q.sub p) fun b pc => K (.b (!b)) pc
    | false => K (.b true) pc
  | .add => match ikEq k .i64 && in64 pc (p.add q) with
    | true => K (svx k (p.add q)) pc
    | false => false
  | .sub => match ikEq k .i64 && in64 pc (p.sub q) with
    | true => K (svx k (p.sub q)) pc
    | false => false
  | _ => false
def remL (q : Int) (p : Lin) (pc : PC) : Nat → Option Lin
  | 0 => none
  | n + 1 => match proves pc p && proves pc ((Lin.mk (q - 1) []).sub p) with
    | true => some p
    | false => match remL q (p.sub (.mk q [])) pc n with
      | some e => some e
      | none => none
def wrU (p : Lin) (pc : PC) : List Lin → Option Lin
  | [] => none
  | h :: l => match proves pc (p.sub h) && proves pc ((Lin.mk 4294967295 []).sub (p.sub h)) with
    | true => some (p.sub h)
    | false => wrU p pc l
def hintsU : List Lin := [.mk 0 [], .mk 0 [(9980, 4294967296)], .mk 0 [(9982, 4294967296)]]
def linU (p : Lin) (pc : PC) (K : SV → PC → Bool) : Bool := match wrU p pc hintsU with
  | some e => K (svx .u32 e) pc
  | none => false
def remH (q : Int) (p : Lin) (pc : PC) : List Lin → Option Lin
  | [] => none
  | h :: l => match proves pc (p.sub (h.mul q)) && proves pc ((Lin.mk (q - 1) []).sub (p.sub (h.mul q))) with
    | true => some (p.sub (h.mul q))
    | false => remH q p pc l
def linR (op : BinOp) (k : IntKind) (p : Lin) (q : Int) (pc : PC) (K : SV → PC → Bool) : Bool := match op with
  | .mul => match ikEq k .u32 with
    | true => linU (p.mul q) pc K
    | false => false
  | .add => match ikEq k .u32 with
    | true => linU (p.add (.mk q [])) pc K
    | false => linX .add k p (.mk q []) pc K
  | .rem => match leI 1 q && ikEq k .i64 && proves pc p with
    | true => (match remL q p pc 8 with
      | some e => K (svx k e) pc
      | none => match remH q p pc [.mk 0 [(9984, 1)], .mk 0 [(9986, 1)]] with
        | some e => K (svx k e) pc
        | none => false)
    | false => false
  | op => linX op k p (.mk q []) pc K
def linQ (op : BinOp) (k : IntKind) (p : Lin) (q : Int) (pc : PC) (K : SV → PC → Bool) : Bool := match byteNe op p q pc with
  | true => match op with
    | .neq => K (.b true) pc
    | _ => K (.b false) pc
  | false => linR op k p q pc K
def binS (op : BinOp) (a b : Str) (pc : PC) (K : SV → PC → Bool) : Bool := match op with
  | .eql => eqSK pc a b fun r pc => K (.b r) pc
  | .neq => eqSK pc a b fun r pc => K (.b (!r)) pc
  | .add => match in64 pc ((lenS a).add (lenS b)) with
    | true => appS a b fun l => K (.s l) pc
    | false => false
  | .lss => match knownS a && knownS b with
    | true => K (.b (ltStr a b)) pc
    | false => false
  | .gtr => match knownS a && knownS b with
    | true => K (.b (ltStr b a)) pc
    | false => false
  | _ => false
def isNil : SV → Option Bool
  | .np | .ns | .nf | .nm => some true
  | .p _ _ | .g _ _ | .sl _ _ _ _ | .sb _ _ | .su _ | .fn _ _ _ | .mp _ => some false
  | _ => none
def nilKind : TK → SV → Bool
  | .ptr _, .np | .ptr _, .p _ _ | .ptr _, .g _ _ => true
  | .slice _, .ns | .slice _, .sl _ _ _ _ | .slice _, .sb _ _ | .slice _, .su _ => true
  | .map _ _, .nm | .map _ _, .mp _ => true
  | .fn, .nf | .fn, .fn _ _ _ => true
  | _, _ => false
def eqNeq (op : BinOp) (b : Bool) (K : SV → Bool) : Bool := match op with
  | .eql => K (.b b)
  | .neq => K (.b (!b))
  | _ => false
def eqOne (k : TK) (pc : PC) (a b : SV) (K : Bool → PC → Bool) : Bool := match a, b, k with
  | .i k p, .i j q, .int _ => match ikEq k j with
    | true => K (eqI p q) pc
    | false => false
  | .b x, .b y, .bool => K (x == y) pc
  | .s l, .s m, .str => eqSK pc l m K
  | .x k p, .x j q, .int _ => match ikEq k j with
    | true => dec2 pc (p.sub q) fun b pc => match b with
      | true => dec2 pc (q.sub p) K
      | false => K false pc
    | false => false
  | .i k p, .x j q, .int _ => match ikEq k j with
    | true => dec2 pc ((Lin.mk p []).sub q) fun b pc => match b with
      | true => dec2 pc (q.sub (.mk p [])) K
      | false => K false pc
    | false => false
  | .x k p, .i j q, .int _ => match ikEq k j with
    | true => dec2 pc (p.sub (.mk q [])) fun b pc => match b with
      | true => dec2 pc ((Lin.mk q []).sub p) K
      | false => K false pc
    | false => false
  | _, _, _ => false
def kindT (P : Program) (t : Nat) : TK := match mkTy P t with
  | some y => y.kind
  | none => .other
def eqCells (P : Program) (pc : PC) : List (Nat × Nat) → List SV → List SV → (Bool → PC → Bool) → Bool
  | [], [], [], K => K true pc
  | f :: fs, a :: l, b :: m, K => eqOne (kindT P f.2) pc a b fun r pc => match r with
    | true => eqCells P pc fs l m K
    | false => K false pc
  | _, _, _, _ => false
def fieldsOk : Nat → List Field → Bool
  | _, [] => true
  | i, f :: l => (f.name != "_") && Nat.beq f.offset i && fieldsOk (i + 1) l
def chkEq (P : Program) (t : Nat) : Bool := match P.underlying t with
  | some (.struct fs) => !P.stoodInHeld t && !P.eqGuardType P.depth t && fieldsOk 0 fs.toList
  | _ => false
def opBin (P : Program) (s : Tr SV) (m : Mem) (nx : Nat) (pc : PC) (op : BinOp) (t : Nat) (x y : Operand) (K : KK) : Bool := evO s x fun a => evO s y fun b => match a, b with
  | .i k p, .i j q => match op with
    | .shl => shI op k p q fun v => K v m nx pc .n
    | .shr => shI op k p q fun v => K v m nx pc .n
    | _ => match ikEq k j with
      | true => binI op k p q fun v => K v m nx pc .n
      | false => false
  | .x k p, .x j q => match ikEq k j with
    | true => linX op k p q pc fun v pc => K v m nx pc .n
    | false => false
  | .i k p, .x j q => match ikEq k j with
    | true => linX op k (.mk p []) q pc fun v pc => K v m nx pc .n
    | false => false
  | .x k p, .i j q => match ikEq k j with
    | true => linQ op k p q pc fun v pc => K v m nx pc .n
    | false => false
  | .s u, .s v => binS op u v pc fun v pc => K v m nx pc .n
  | .b u, .b v => match kindT P t with
    | .bool => eqNeq op (u == v) fun v => K v m nx pc .n
    | _ => false
  | .ag l, .ag l' => match chkEq P t with
    | true => match kindT P t with
      | .struct fs => eqCells P pc fs l l' fun r pc => eqNeq op r fun v => K v m nx pc .n
      | _ => false
    | false => false
  | .p g i, .p h j => match kindT P t with
    | .ptr e => match mkTy P e with
      | some y => match Nat.beq g h && Nat.ble 1 y.sz with
        | true => eqNeq op (Nat.beq i j) fun v => K v m nx pc .n
        | false => false
      | none => false
    | _ => false
  | .tp _ e, .np => match kindT P t with
    | .ptr _ => dec2 pc (e.sub (.mk 1 [])) fun r pc => eqNeq op (!r) fun v => K v m nx pc .n
    | _ => false
  | a, b => match isNil b with
    | some true => match nilKind (kindT P t) a && nilKind (kindT P t) b with
      | true => match isNil a with
        | some r => eqNeq op r fun v => K v m nx pc .n
        | none => false
      | false => false
    | _ => false
def opPick (s : Tr SV) (m : Mem) (nx : Nat) (pc : PC) (c a b : Operand) (K : KK) : Bool := evO s c fun v => match v with
  | .b t => match t with
    | true => evO s a fun v => K v m nx pc .n
    | false => evO s b fun v => K v m nx pc .n
  | _ => false
def opUn (s : Tr SV) (m : Mem) (nx : Nat) (pc : PC) (op : UnOp) (x : Operand) (K : KK) : Bool := evO s x fun v => match op, v with
  | .not, .b b => K (.b (!b)) m nx pc .n
  | .neg, .i .i64 n => wrK .i64 (-n) fun v => K v m nx pc .n
  | _, _ => false
def bytP (pc : PC) (j : Nat) : Option Nat := match Nat.beq (Nat.mod j 8) 3 && Nat.beq (Nat.div j 128) 500 && one1 pc (Nat.mod (Nat.div j 8) 16) with
  | true => some (Nat.mod (Nat.div j 8) 16)
  | false => none
def bytesC (pc : PC) (l : List SV) (K : Str → Bool) : Bool := match l with
  | [] => K []
  | .i .u8 (.ofNat n) :: l => match Nat.ble n 255 with
    | true => bytesC pc l fun r => K (.c n :: r)
    | false => false
  | .x .u8 (.mk 0 [(j, 1)]) :: l => match bytP pc j with
    | some i => frn i fun i => bytesC pc l fun r => K (.a i :: r)
    | none => false
  | _ => false
def opConv (P : Program) (s : Tr SV) (m : Mem) (nx : Nat) (pc : PC) (src d : Nat) (x : Operand) (K : KK) : Bool := evO s x fun v => match kindT P src, kindT P d, v with
  | .int _, .int k, .i _ n => wrK k n fun v => K v m nx pc .n
  | .int _, .int k, .x _ e => match ikEq k .i64 && in64 pc e with
    | true => K (.x k e) m nx pc .n
    | false => match ikEq k .u64 && in64 pc e && proves pc e with
      | true => K (.x k e) m nx pc .n
      | false => false
  | .str, .str, .s l => K (.s l) m nx pc .n
  | .slice e, .str, v => match kindT P e, v with
    | .int .u8, .ns => K (.s []) m nx pc .n
    | .int .u8, .sl g off len _ => match m.get g with
      | some (.ce _ cs _) => segC cs off len fun l => bytesC pc l fun u => K (.s u) m nx pc (.r g)
      | _ => false
    | .int .u8, .sb g l => match m.get g with
      | some (.bt _ l') => match eqStr l l' with
        | true => K (.s l) m nx pc (.r g)
        | false => false
      | _ => false
    | _, _ => false
  | .ptr _, .upt, .np => K .np m nx pc .n
  | .ptr t, .upt, .p g off => match m.get g, mkTy P t with
    | some (.ce _ cs _), some y => match Nat.blt off (lenC cs 0) && Nat.ble 1 y.sz with
      | true => K (.p g off) m nx pc (.r g)
      | false => false
    | _, _ => false
  | .upt, .ptr _, .np => K .np m nx pc .n
  | .upt, .ptr u, .p g off => match m.get g with
    | some (.ce e cs true) => match mkTy P u with
      | some _ => match liesAt P P.depth e (lenC cs 0 / P.cellsOf e) off u 1 with
        | true => K (.p g off) m nx pc (.r g)
        | false => false
      | none => false
    | _ => false
  | _, _, _ => false
def opExtract (s : Tr SV) (m : Mem) (nx : Nat) (pc : PC) (x : Operand) (i : Nat) (K : KK) : Bool := evO s x fun v => match v with
  | .tu l => nthC l i fun v => K v m nx pc .n
  | _ => false
def partC (y : Ty) (cs : List SV) (off : Nat) (K : SV → Bool) : Bool := match y.agg with
  | true => segC cs off y.sz fun l => K (.ag l)
  | false => nthC cs off K
def nthF : List (Nat × Nat) → Nat → Option (Nat × Nat)
  | [], _ => none
  | a :: _, 0 => some a
  | _ :: l, i + 1 => nthF l i
def fieldT (P : Program) (t f : Nat) : Option (Nat × Ty) := match kindT P t with
  | .struct fs => match nthF fs f with
    | some (o, ft) => match mkTy P ft with
      | some y => some (o, y)
      | none => none
    | none => none
  | _ => none
def opField (P : Program) (s : Tr SV) (m : Mem) (nx : Nat) (pc : PC) (t : Nat) (x : Operand) (f : Nat) (K : KK) : Bool := match fieldT P t f with
  | some (o, y) => evO s x fun v => match v with
    | .ag l => partC y l o fun v => K v m nx pc .n
    | _ => false
  | none => false
def opFunc (s : Tr SV) (m : Mem) (nx : Nat) (pc : PC) (f : Fn) (fi ca : List Operand) (K : KK) : Bool := match f with
  | .func f => evL s fi fun a => evL s ca fun b => K (.fn f a b) m nx pc .n
  | _ => false
def idxB (pc : PC) : Str → Lin → (SV → PC → Bool) → Bool
  | [], _, _ => false
  | .c a :: l, e, K => match zeroL pc e with
    | true => match Nat.ble a 255 with
      | true => K (.i .u8 (.ofNat a)) pc
      | false => false
    | false => idxB pc l ((Lin.mk (-1) []).add e) K
  | .a i :: l, e, K => match zeroL pc e && one1 pc i with
    | true => frn (Nat.add (Nat.mul 8 (Nat.add i 8000)) 3) fun k => K (.x .u8 (.mk 0 [(k, 1)])) (.mk 0 [(k, 1)] :: .mk 255 [(k, -1)] :: pc)
    | false => idxB pc l (e.add (.mk 0 [(4 * i + 1, -1)])) K
def knownTo : Str → Nat → Bool
  | .c _ :: _, 0 => true
  | .c _ :: l, n + 1 => knownTo l n
  | _, _ => false
def opIndex (P : Program) (s : Tr SV) (m : Mem) (nx : Nat) (pc : PC) (t : Nat) (x y : Operand) (K : KK) : Bool := evO s x fun v => evO s y fun i => match v, i, kindT P t with
  | .s l, .i _ (.ofNat n), .str => match knownTo l n with
    | true => nthS l n fun a => K (.i .u8 (.ofNat a)) m nx pc .n
    | false => idxB pc l (.mk (.ofNat n) []) fun v pc => K v m nx pc .n
  | .s l, .x _ e, .str => match l, e with
    | [.a i], .mk 0 [(j, 1)] => match Nat.blt i 16 && Nat.beq (Nat.mod j 2) 0 && proves pc e && proves pc ((lenS l).sub (e.add (.mk 1 []))) with
      | true => frn (Nat.add (Nat.mul 8 (Nat.add i (Nat.mul 16 (Nat.div j 2)))) 3) fun k => K (.x .u8 (.mk 0 [(k, 1)])) m nx (.mk 0 [(k, 1)] :: .mk 255 [(k, -1)] :: pc) .n
      | false => false
    | l, e => idxB pc l e fun v pc => K v m nx pc .n
  | .ag l, .i _ (.ofNat n), .arr c e => match mkTy P e with
    | some ey => match Nat.blt n c with
      | true => partC ey l (Nat.mul n ey.sz) fun v => K v m nx pc .n
      | false => false
    | none => false
  | _, _, _ => false
def opNil (s : Tr SV) (m : Mem) (nx : Nat) (pc : PC) (x : Operand) (K : KK) : Bool := evO s x fun v => match v with
  | .p _ _ | .g _ _ | .fn _ _ _ | .mp _ | .sl _ _ _ _ => K v m nx pc .n
  | _ => false
def opFieldAddr (P : Program) (s : Tr SV) (m : Mem) (nx : Nat) (pc : PC) (t : Nat) (x : Operand) (f : Nat) (K : KK) : Bool := match fieldT P t f with
  | some (o, y) => match Nat.ble 1 y.sz with
    | true => evO s x fun v => match v with
      | .p g off => frn (Nat.add off o) fun k => K (.p g k) m nx pc .n
      | _ => false
    | false => false
  | none => false
def opIndexAddr (P : Program) (s : Tr SV) (m : Mem) (nx : Nat) (pc : PC) (t : Nat) (x y : Operand) (K : KK) : Bool := evO s x fun v => evO s y fun i => match v, i, kindT P t with
  | .sl g off len _, .i _ (.ofNat n), .slice e => match mkTy P e with
    | some ey => match Nat.blt n len with
      | true => frn (Nat.add off (Nat.mul n ey.sz)) fun k => K (.p g k) m nx pc .n
      | false => false
    | none => false
  | .p g off, .i _ (.ofNat n), .arr c e => match mkTy P e with
    | some ey => match Nat.blt n c with
      | true => frn (Nat.add off (Nat.mul n ey.sz)) fun k => K (.p g k) m nx pc .n
      | false => false
    | none => false
  | .sv g len, .i _ (.ofNat n), .slice e => match mkTy P e with
    | some ey => match proves pc (len.sub (.mk (.ofNat (Nat.succ n)) [])) with
      | true => frn (Nat.mul n ey.sz) fun k => K (.pv g k) m nx pc .n
      | false => false
    | none => false
  | .pv g off, .i _ (.ofNat n), .arr c e => match mkTy P e with
    | some ey => match Nat.blt n c with
      | true => frn (Nat.add off (Nat.mul n ey.sz)) fun k => K (.pv g k) m nx pc .n
      | false => false
    | none => false
  | _, _, _ => false
def opLoad (P : Program) (s : Tr SV) (m : Mem) (nx : Nat) (pc : PC) (t : Nat) (x : Operand) (K : KK) : Bool := match mkTy P t with
  | some y => evO s x fun v => match v with
    | .p g off => match m.get g with
      | some (.ce _ cs _) => partC y cs off fun v => K v m nx pc (.r g)
      | _ => false
    | .pv g off => match m.get g with
      | some (.cv cs) => partC y cs off fun v => K v m nx pc (.r g)
      | some (.cq n b) => match y.agg with
        | true => false
        | false => match Nat.blt n 10000 with
          | true => match proves pc ((Lin.mk 0 [(Nat.mul 2 n, 2)]).sub (.mk (.ofNat (Nat.succ off)) [])) with
            | true => frn (Nat.mul 2 (Nat.add b off)) fun k => K (.x .i64 (.mk 0 [(k, 1)])) m nx pc (.r g)
            | false => false
          | false => match proves pc ((Lin.mk 0 [(Nat.mul 2 n, 1)]).sub (.mk (.ofNat (Nat.succ off)) [])) with
            | true => frn (Nat.add b off) fun k => K (.s [.a k]) m nx pc (.r g)
            | false => false
      | _ => false
    | _ => false
  | none => false
def opStore (P : Program) (s : Tr SV) (m : Mem) (nx : Nat) (pc : PC) (t : Nat) (x y : Operand) (K : KK) : Bool := match mkTy P t with
  | some ty => evO s x fun v => evO s y fun u => match v with
    | .p g off => match m.get g with
      | some (.ce e cs ex) => match Nat.beq (lenC (cellsV u) 0) ty.sz && allOne (cellsV u) with
        | true => setC cs off (cellsV u) fun cs => m.set g (some (.ce e cs ex)) fun m => K .un m nx pc (.w [g])
        | false => false
      | _ => false
    | _ => false
  | none => false
def opAlloc (P : Program) (m : Mem) (nx : Nat) (pc : PC) (t : Nat) (K : KK) : Bool := match mkTy P t with
  | some y => newB m nx (.ce t y.zero true) fun m nx' => K (.p nx 0) m nx' pc (.w [nx])
  | none => false
def opBox (s : Tr SV) (m : Mem) (nx : Nat) (pc : PC) (t : Nat) (x : Operand) (K : KK) : Bool := evO s x fun v => match allOne (cellsV v) with
  | true => newB m nx (.ce t (cellsV v) true) fun m nx' => K (.p nx 0) m nx' pc (.w [nx])
  | false => false
def placeT (P : Program) (t i : Nat) : Option (Nat × Nat) := match kindT P t with
  | .struct _ => match fieldT P t i with
    | some (o, y) => some (o, y.sz)
    | none => none
  | .arr _ e => match mkTy P e with
    | some y => some (Nat.mul i y.sz, y.sz)
    | none => none
  | .slice e => match mkTy P e with
    | some y => some (Nat.mul i y.sz, y.sz)
    | none => none
  | _ => none
def fillC (P : Program) (s : Tr SV) (t : Nat) : List (Nat × Operand) → List SV → (List SV → Bool) → Bool
  | [], cs, K => K cs
  | (i, x) :: l, cs, K => match placeT P t i with
    | some (o, n) => evO s x fun v => match Nat.beq (lenC (cellsV v) 0) n && allOne (cellsV v) with
      | true => setC cs o (cellsV v) fun cs => fillC P s t l cs K
      | false => false
    | none => false
def allTy (P : Program) : List (Nat × Nat) → Bool
  | [] => true
  | f :: l => match mkTy P f.2 with
    | some _ => allTy P l
    | none => false
def opBuild (P : Program) (s : Tr SV) (m : Mem) (nx : Nat) (pc : PC) (t : Nat) (parts : List (Nat × Operand)) (K : KK) : Bool := match mkTy P t with
  | some y => match y.kind with
    | .struct fs => match allTy P fs with
      | true => fillC P s t parts y.zero fun cs => K (.ag cs) m nx pc .n
      | false => false
    | .arr _ e => match mkTy P e with
      | some _ => fillC P s t parts y.zero fun cs => K (.ag cs) m nx pc .n
      | none => false
    | _ => false
  | none => false
def repC (z : List SV) : Nat → List SV
  | 0 => []
  | n + 1 => z ++ repC z n
def opBuildSlice (P : Program) (s : Tr SV) (m : Mem) (nx : Nat) (pc : PC) (t n : Nat) (parts : List (Nat × Operand)) (K : KK) : Bool := match kindT P t with
  | .slice e => match mkTy P e with
    | some y => match Nat.ble 1 y.sz && Nat.ble (Nat.mul n y.sz) 16777216 with
      | true => fillC P s t parts (repC y.zero n) fun cs => newB m nx (.ce e cs true) fun m nx' => K (.sl nx 0 n (.k n)) m nx' pc (.w [nx])
      | false => false
    | none => false
  | _ => false
def opMakeSlice (P : Program) (s : Tr SV) (m : Mem) (nx : Nat) (pc : PC) (t : Nat) (x y : Operand) (K : KK) : Bool := match kindT P t with
  | .slice e => match mkTy P e with
    | some ye => evO s x fun a => evO s y fun b => match a, b with
      | .i _ (.ofNat l), .i _ (.ofNat c) => match Nat.ble l c && Nat.ble 1 ye.sz && Nat.ble (Nat.mul (Nat.add ye.by' 1) c) 16777216 with
        | true => newB m nx (.ce e (repC ye.zero c) true) fun m nx' => K (.sl nx 0 l (.k c)) m nx' pc (.w [nx])
        | false => false
      | _, _ => false
    | none => false
  | _ => false
def opMakeMap (m : Mem) (nx : Nat) (pc : PC) (r : Option Operand) (K : KK) : Bool := match r with
  | none => newB m nx (.mp [] 0) fun m nx' => K (.mp nx) m nx' pc (.w [nx])
  | some _ => false
def evB (s : Tr SV) (x : Option Operand) (K : Option Lin → Bool) : Bool := match x with
  | none => K none
  | some x => evO s x fun v => match v with
    | .i _ n => K (some (.mk n []))
    | .x _ e => K (some e)
    | _ => false
def natL (x : Option Lin) (d : Nat) (K : Nat → Bool) : Bool := match x with
  | none => K d
  | some (.mk (.ofNat n) []) => K n
  | _ => false
def known (m : Mem) (g : Nat) : Nat := match m.get g with
  | some (.ce _ cs _) => lenC cs 0
  | _ => 0
def roomC (m : Mem) (g off : Nat) (cap : Cap) (n : Nat) : Bool := match cap with
  | .k c => Nat.ble n c
  | .q sz => match n with
    | 0 => true
    | n + 1 => Nat.ble 1 sz && Nat.ble (Nat.add off (Nat.mul (Nat.succ n) sz)) (known m g)
def isC : Option Lin → Bool
  | none => true
  | some (.mk _ []) => true
  | _ => false
def lenC' (u : Str) (l h : Option Lin) : Option Nat := match isC l && isC h with
  | true => lenN u 0
  | false => none
def slStr (pc : PC) (u : Str) (l h : Option Lin) (K : SV → Bool) : Bool := match lenC' u l h with
  | some n => natL l 0 fun l => natL h n fun h => match Nat.ble l h && Nat.ble h n with
    | true => cutN u l fun _ r => cutN r (Nat.sub h l) fun a _ => K (.s a)
    | false => false
  | none => cutM pc u (match l with | some e => e | none => .mk 0 []) fun a r => match h with
    | none => K (.s r)
    | some e => cutM pc r (e.sub (lenS a)) fun b _ => K (.s b)
def slAt (g off sz l h c : Nat) (K : SV → Bool) : Bool := match Nat.beq c l with
  | true => frn (Nat.sub h l) fun d => K (.sl g off d (.k 0))
  | false => frn (Nat.add off (Nat.mul l sz)) fun o => frn (Nat.sub h l) fun d => frn (Nat.sub c l) fun c => K (.sl g o d (.k c))
def slSl (m : Mem) (g off n : Nat) (cap : Cap) (sz : Nat) (l h c : Option Lin) (K : SV → Bool) : Bool := natL l 0 fun l => match c with
  | some _ => match h with
    | some _ => natL h 0 fun h => natL c 0 fun c => match Nat.ble l h && Nat.ble h c && roomC m g off cap c with
      | true => slAt g off sz l h c K
      | false => false
    | none => false
  | none => natL h n fun h => match Nat.ble l h && roomC m g off cap h with
    | true => match cap with
      | .k c => slAt g off sz l h c K
      | .q z => match Nat.beq l 0 with
        | true => K (.sl g off h (.q z))
        | false => match Nat.beq z sz && roomC m g off cap (Nat.succ l) with
          | true => frn (Nat.add off (Nat.mul l sz)) fun o => frn (Nat.sub h l) fun d => K (.sl g o d (.q z))
          | false => false
    | false => false
def endAt (m : Mem) (g off n : Nat) (cap : Cap) (sz : Nat) (l h c : Option Lin) : Bool := match cap, l, h, c with
  | .q z, some (.mk (.ofNat (k + 1)) []), none, none => Nat.beq (Nat.succ k) n && Nat.beq z sz && roomC m g off (.q z) n && !roomC m g off (.q z) (Nat.succ n)
  | _, _, _, _ => false
def opSlice (P : Program) (s : Tr SV) (m : Mem) (nx : Nat) (pc : PC) (t : Nat) (x : Operand) (lo hi mx : Option Operand) (K : KK) : Bool := evO s x fun v => evB s lo fun l => evB s hi fun h => evB s mx fun c => match v, kindT P t with
  | .s u, .str => match c with
    | none => slStr pc u l h fun v => K v m nx pc .n
    | some _ => false
  | .ns, .slice e => match mkTy P e with
    | some _ => match c, h with
      | some _, none => false
      | _, _ => natL l 0 fun l => natL h 0 fun h => natL c 0 fun c => match Nat.beq l 0 && Nat.beq h 0 && Nat.beq c 0 with
        | true => K .ns m nx pc .n
        | false => false
    | none => false
  | .sl g off n cap, .slice e => match mkTy P e with
    | some y => match endAt m g off n cap y.sz l h c with
      | true => frn nx fun nx => K (.sv nx (.mk 0 [])) m (Nat.succ nx) pc (.r g)
      | false => slSl m g off n cap y.sz l h c fun v => K v m nx pc (.r g)
    | none => false
  | .p g off, .arr n e => match c with
    | none => match mkTy P e with
      | some y => natL l 0 fun l => natL h n fun h => match Nat.ble l h && Nat.ble h n with
        | true => slAt g off y.sz l h n fun v => K v m nx pc .n
        | false => false
      | none => false
    | some _ => false
  | _, _ => false
def keyEq : SV → SV → Option Bool
  | .i k a, .i j b => match ikEq k j with
    | true => some (eqI a b)
    | false => none
  | .s a, .s b => match knownS a && knownS b with
    | true => some (eqStr a b)
    | false => none
  | _, _ => none
def findK : List (SV × SV × Nat) → SV → (Option SV → Bool) → Bool
  | [], _, K => K none
  | (k, v, _) :: l, x, K => match keyEq x k with
    | some true => K (some v)
    | some false => findK l x K
    | none => false
def putK : List (SV × SV × Nat) → SV → SV → Nat → (List (SV × SV × Nat) → Nat → Bool) → Bool
  | [], x, y, c, K => K [(x, y, c)] (Nat.succ c)
  | (k, v, n) :: l, x, y, c, K => match keyEq x k with
    | some true => K ((x, y, n) :: l) c
    | some false => putK l x y c fun r c => K ((k, v, n) :: r) c
    | none => false
def delK : List (SV × SV × Nat) → SV → (List (SV × SV × Nat) → Bool) → Bool
  | [], _, K => K []
  | (k, v, n) :: l, x, K => match keyEq x k with
    | some true => K l
    | some false => delK l x fun r => K ((k, v, n) :: r)
    | none => false
def zeroT (P : Program) (t : Nat) (K : SV → Bool) : Bool := match mkTy P t with
  | some y => match y.agg with
    | true => K (.ag y.zero)
    | false => nthC y.zero 0 K
  | none => false
def mapT (P : Program) (t : Nat) (k : SV) : Option Nat := match kindT P t with
  | .map a e => match kindT P a, k with
    | .int _, .i _ _ => some e
    | .str, .s _ => some e
    | _, _ => none
  | _ => none
def opLookup (P : Program) (s : Tr SV) (m : Mem) (nx : Nat) (pc : PC) (t : Nat) (x y : Operand) (ok : Bool) (K : KK) : Bool := evO s x fun v => evO s y fun k => match mapT P t k with
  | some e => match v with
    | .nm => zeroT P e fun z => match ok with
      | true => K (.tu [z, .b false]) m nx pc .n
      | false => K z m nx pc .n
    | .mp g => match m.get g with
      | some (.mp es _) => findK es k fun r => match r with
        | some u => match ok with
          | true => K (.tu [u, .b true]) m nx pc (.r g)
          | false => K u m nx pc (.r g)
        | none => zeroT P e fun z => match ok with
          | true => K (.tu [z, .b false]) m nx pc (.r g)
          | false => K z m nx pc (.r g)
      | _ => false
    | _ => false
  | none => false
def opUpdate (P : Program) (s : Tr SV) (m : Mem) (nx : Nat) (pc : PC) (t : Nat) (x y z : Operand) (K : KK) : Bool := evO s x fun v => evO s y fun k => evO s z fun u => match mapT P t k with
  | some _ => match v with
    | .mp g => match m.get g with
      | some (.mp es ck) => putK es k u ck fun es ck => m.set g (some (.mp es ck)) fun m => K .un m nx pc (.w [g])
      | _ => false
    | _ => false
  | none => false
def opLen (s : Tr SV) (P : Program) (m : Mem) (nx : Nat) (pc : PC) (t : Nat) (x : Operand) (K : KK) : Bool := evO s x fun v => match v, kindT P t with
  | .s l, .str => match lenN l 0 with
    | some n => K (.i .i64 (.ofNat n)) m nx pc .n
    | none => K (svx .i64 (lenS l)) m nx pc .n
  | .ns, .slice _ => K (.i .i64 (.ofNat 0)) m nx pc .n
  | .sl _ _ n _, .slice _ => K (.i .i64 (.ofNat n)) m nx pc .n
  | .sb _ l, .slice _ => K (svx .i64 (lenS l)) m nx pc .n
  | .nm, .map _ _ => K (.i .i64 (.ofNat 0)) m nx pc .n
  | .sv _ e, .slice _ => K (svx .i64 e) m nx pc .n
  | .mp g, .map _ _ => match m.get g with
    | some (.mp es _) => frn es.length fun n => K (.i .i64 (.ofNat n)) m nx pc (.r g)
    | _ => false
  | _, _ => false
def opMM (mx : Bool) (s : Tr SV) (m : Mem) (nx : Nat) (pc : PC) (x y : Operand) (K : KK) : Bool := evO s x fun a => evO s y fun b => match a, b with
  | .i k p, .i j q => match ikEq k j with
    | true => match leI p q == mx with
      | true => K (.i k q) m nx pc .n
      | false => K (.i k p) m nx pc .n
    | false => false
  | .x k p, .x j q => match ikEq k j with
    | true => dec2 pc (q.sub p) fun b pc => match b == mx with
      | true => K (.x k q) m nx pc .n
      | false => K (.x k p) m nx pc .n
    | false => false
  | .i k p, .x j q => match ikEq k j with
    | true => dec2 pc (q.sub (.mk p [])) fun b pc => match b == mx with
      | true => K (.x k q) m nx pc .n
      | false => K (.i k p) m nx pc .n
    | false => false
  | .x k p, .i j q => match ikEq k j with
    | true => dec2 pc ((Lin.mk q []).sub p) fun b pc => match b == mx with
      | true => K (.i k q) m nx pc .n
      | false => K (.x k p) m nx pc .n
    | false => false
  | _, _ => false
def srcC (m : Mem) (sz : Nat) (v : SV) (K : List SV → Nat → List Nat → Bool) : Bool := match v with
  | .ns => K [] 0 []
  | .sl g off n _ => match m.get g with
    | some (.ce _ cs _) => segC cs off (Nat.mul n sz) fun l => K l n [g]
    | _ => false
  | .s l => match Nat.beq sz 1 && knownS l with
    | true => strV l fun vs => K vs (lenC vs 0) []
    | false => false
  | .sv _ (.mk (.ofNat 0) []) => K [] 0 []
  | _ => false
where
  strV : Str → (List SV → Bool) → Bool
    | [], K => K []
    | .c n :: l, K => strV l fun r => K (.i .u8 (.ofNat n) :: r)
    | .a _ :: _, _ => false
def srcT (P : Program) (t e : Nat) (u : SV) : Bool := match u with
  | .s _ => match kindT P t, kindT P e with
    | .str, .int .u8 => true
    | _, _ => false
  | .ns | .sl _ _ _ _ | .sb _ _ | .sv _ _ => match kindT P t with
    | .slice _ => true
    | _ => false
  | _ => false
def fitsM (n by' : Nat) : Bool := Nat.ble (Nat.mul n by') 16777216
def apSym (m : Mem) (nx : Nat) (pc : PC) (e : Nat) (ye : Ty) (l : Str) (K : KK) : Bool := match Nat.beq ye.sz 1 && Nat.ble ye.by' 16 && proves pc ((Lin.mk 16777216 []).sub (lenS l)) && proves pc ((lenS l).add (.mk (-1) [])) with
  | true => newB m nx (.bt e l) fun m nx' => K (.sb nx l) m nx' pc (.w [nx])
  | false => false
def apNs (m : Mem) (nx : Nat) (pc : PC) (e : Nat) (ye : Ty) (news : List SV) (n : Nat) (ts : List Nat) (K : KK) : Bool := match n with
  | 0 => K .ns m nx pc (.w ts)
  | k + 1 => match fitsM (Nat.succ k) ye.by' with
    | true => newB m nx (.ce e news false) fun m nx' => K (.sl nx 0 (Nat.succ k) (.q ye.sz)) m nx' pc (.w (nx :: ts))
    | false => false
def apRoom (m : Mem) (nx : Nat) (pc : PC) (ye : Ty) (g off len : Nat) (cap : Cap) (need : Nat) (news : List SV) (n : Nat) (ts : List Nat) (K : KK) : Bool := match m.get g with
  | some (.ce e' cs ex) => setC cs (Nat.add off (Nat.mul len ye.sz)) news fun cs => m.set g (some (.ce e' cs ex)) fun m => K (.sl g off need cap) m nx pc (.w (g :: ts))
  | _ => match n with
    | 0 => K (.sl g off len cap) m nx pc (.w ts)
    | _ + 1 => false
def apGrow (m : Mem) (nx : Nat) (pc : PC) (e : Nat) (ye : Ty) (g off len need : Nat) (news : List SV) (ts : List Nat) (K : KK) : Bool := match len with
  | 0 => newB m nx (.ce e news false) fun m nx' => K (.sl nx 0 need (.q ye.sz)) m nx' pc (.w (nx :: ts))
  | _ + 1 => match m.get g with
    | some (.ce _ cs _) => segC cs off (Nat.mul len ye.sz) fun olds => appC olds news fun l => newB m nx (.ce e l false) fun m nx' => K (.sl nx 0 need (.q ye.sz)) m nx' pc (.w (nx :: g :: ts))
    | _ => false
def apAny (m : Mem) (nx : Nat) (pc : PC) (e : Nat) (ye : Ty) (g off len sz need : Nat) (news : List SV) (ts : List Nat) (K : KK) : Bool := match m.get g with
  | some (.ce e' cs _) => match Nat.beq off 0 && Nat.beq sz ye.sz && Nat.beq e e' && Nat.beq (lenC cs 0) (Nat.mul len sz) with
    | true => appC cs news fun l => m.set g none fun m => newB m nx (.ce e l false) fun m nx' => K (.sl nx 0 need (.q sz)) m nx' pc (.w (nx :: g :: ts))
    | false => false
  | _ => false
def apOld (m : Mem) (nx : Nat) (pc : PC) (e : Nat) (ye : Ty) (v u : SV) (K : KK) : Bool := srcC m ye.sz u fun news n ts => match v with
  | .ns => apNs m nx pc e ye news n ts K
  | .sl g off len cap => frn (Nat.add len n) fun need => match fitsM need ye.by' with
    | true => match roomC m g off cap need with
      | true => apRoom m nx pc ye g off len cap need news n ts K
      | false => match cap with
        | .k _ => apGrow m nx pc e ye g off len need news ts K
        | .q sz => apAny m nx pc e ye g off len sz need news ts K
    | false => false
  | _ => false
def srcS (m : Mem) (pc : PC) (u : SV) (K : Str → List Nat → Bool) : Bool := match u with
  | .s l => K l []
  | u => srcC m 1 u fun cs _ ts => bytesC pc cs fun l => K l ts
def apSb (m : Mem) (nx : Nat) (pc : PC) (e : Nat) (ye : Ty) (g : Nat) (l0 l : Str) (ts : List Nat) (K : KK) : Bool := match m.get g with
  | some (.bt e' l1) => match Nat.beq e e' && eqStr l0 l1 && Nat.beq ye.sz 1 && Nat.ble ye.by' 16 && proves pc ((Lin.mk 1000000 []).sub ((lenS l0).add (lenS l))) with
    | true => appS l0 l fun r => m.set g none fun m => newB m nx (.bt e r) fun m nx' => K (.sb nx r) m nx' pc (.w (nx :: g :: ts))
    | false => false
  | _ => false
def allStr : List SV → Bool
  | [] => true
  | .s _ :: l => allStr l
  | _ => false
def apOb (m : Mem) (nx : Nat) (pc : PC) (e : Nat) (ye : Ty) (g : Nat) (l0 : Str) (news : List SV) (n : Nat) (ts : List Nat) (K : KK) : Bool := match m.get g with
  | some (.ob e' l1) => match Nat.beq e e' && eqStr l0 l1 && Nat.beq ye.sz 1 && Nat.ble ye.by' 16 && Nat.beq n 1 && allStr news && proves pc ((Lin.mk 999999 []).sub (lenS l0)) with
    | true => appS l0 [.c 0] fun r => m.set g none fun m => newB m nx (.ob e r) fun m nx' => K (.sb nx r) m nx' pc (.w (nx :: g :: ts))
    | false => false
  | _ => false
def apUn (m : Mem) (nx : Nat) (pc : PC) (e : Nat) (ye : Ty) (g : Nat) (l0 : Str) (u : SV) (K : KK) : Bool := match m.get g with
  | some (.ob _ _) => srcC m ye.sz u fun news n ts => apOb m nx pc e ye g l0 news n ts K
  | _ => srcS m pc u fun l ts => apSb m nx pc e ye g l0 l ts K
def opAppend (P : Program) (s : Tr SV) (m : Mem) (nx : Nat) (pc : PC) (t t' : Nat) (x y : Operand) (K : KK) : Bool := match kindT P t with
  | .slice e => match mkTy P e with
    | some ye => evO s x fun v => evO s y fun u => match srcT P t' e u && Nat.ble 1 ye.sz && Nat.ble 1 ye.by' with
      | true => match v, u with
        | .ns, .s l => match knownS l with
          | true => apOld m nx pc e ye v u K
          | false => apSym m nx pc e ye l K
        | .sb g l0, u => apUn m nx pc e ye g l0 u K
        | v, u => apOld m nx pc e ye v u K
      | false => false
    | none => false
  | _ => false
def opCopy (P : Program) (s : Tr SV) (m : Mem) (nx : Nat) (pc : PC) (t t' : Nat) (x y : Operand) (K : KK) : Bool := match kindT P t with
  | .slice e => match mkTy P e with
    | some ye => evO s x fun v => evO s y fun u => match srcT P t' e u with
      | true => srcC m ye.sz u fun news n ts => match v with
        | .ns => K (.i .i64 0) m nx pc (.w ts)
        | .sl g off len _ => match m.get g with
          | some (.ce e' cs ex) => match Nat.ble n len with
            | true => setC cs off news fun cs => m.set g (some (.ce e' cs ex)) fun m => K (.i .i64 (.ofNat n)) m nx pc (.w (g :: ts))
            | false => match u with
              | .sl _ _ _ _ => takeC news (Nat.mul len ye.sz) fun news => setC cs off news fun cs => m.set g (some (.ce e' cs ex)) fun m => K (.i .i64 (.ofNat len)) m nx pc (.w (g :: ts))
              | _ => false
          | _ => false
        | _ => false
      | false => false
    | none => false
  | _ => false
def opDelete (P : Program) (s : Tr SV) (m : Mem) (nx : Nat) (pc : PC) (t : Nat) (x y : Operand) (K : KK) : Bool := evO s x fun v => evO s y fun k => match mapT P t k with
  | some _ => match v with
    | .nm => K (.tu []) m nx pc .n
    | .mp g => match m.get g with
      | some (.mp es ck) => delK es k fun es => m.set g (some (.mp es ck)) fun m => K (.tu []) m nx pc (.w [g])
      | _ => false
    | _ => false
  | none => false
def opSData (s : Tr SV) (m : Mem) (nx : Nat) (pc : PC) (x : Operand) (K : KK) : Bool := evO s x fun v => match v with
  | .ns => K .np m nx pc .n
  | .sl g off _ cap => match roomC m g off cap 1 with
    | true => K (.p g off) m nx pc (.r g)
    | false => false
  | .sb g l => match m.get g with
    | some (.bt _ l') => match eqStr l l' && proves pc ((lenS l).sub (.mk 1 [])) with
      | true => K (.p g 0) m nx pc (.r g)
      | false => false
    | _ => false
  | _ => false
def opUString (P : Program) (s : Tr SV) (m : Mem) (nx : Nat) (pc : PC) (t : Nat) (x y : Operand) (K : KK) : Bool := evO s x fun v => evO s y fun n => match n with
  | .i .i64 (.ofNat 0) => match v with
    | .np => K (.s []) m nx pc .n
    | .p _ _ => K (.s []) m nx pc .n
    | _ => false
  | .i .i64 (.ofNat (k + 1)) => match v, kindT P t with
    | .p g 0, .ptr u => match m.get g with
      | some (.ce e cs _) => match Nat.beq e u && Nat.beq (P.cellsOf e) 1 && Nat.ble k 16777216 with
        | true => segC cs 0 (Nat.succ k) fun l => bytesC pc l fun r => m.set g none fun m => K (.s r) m nx pc (.w [g])
        | false => false
      | _ => false
    | _, _ => false
  | .x .i64 e => match v, kindT P t with
    | .p g 0, .ptr u => match m.get g with
      | some (.bt e' l) => match Nat.beq e' u && Nat.beq (P.cellsOf e') 1 && proves pc (e.sub (lenS l)) && proves pc ((lenS l).sub e) && proves pc ((lenS l).sub (.mk 1 [])) && proves pc ((Lin.mk 16777216 []).sub (lenS l)) with
        | true => m.set g none fun m => K (.s l) m nx pc (.w [g])
        | false => false
      | _ => false
    | _, _ => false
  | _ => false
def opBuiltin (P : Program) (s : Tr SV) (m : Mem) (nx : Nat) (pc : PC) (b : Builtin) (args : List Operand) (ts : List Nat) (K : KK) : Bool := match b, args, ts with
  | .len, [x], [t] => opLen s P m nx pc t x K
  | .append, [x, y], [t, t'] => opAppend P s m nx pc t t' x y K
  | .max, [x, y], [_, _] => opMM true s m nx pc x y K
  | .min, [x, y], [_, _] => opMM false s m nx pc x y K
  | .copy, [x, y], [t, t'] => opCopy P s m nx pc t t' x y K
  | .delete, [x, y], t :: _ => opDelete P s m nx pc t x y K
  | .unsafeSliceData, [x], _ => opSData s m nx pc x K
  | .unsafeString, [x, y], [t, _] => opUString P s m nx pc t x y K
  | _, _, _ => false
def isSame (P : Program) (f : Nat) : Bool := match P.funcs[f]? with
  | some fn => fn.body.isNone && (fn.name == "internal/abi.NoEscape") && (fn.origin == "")
  | none => false
def isIdx (P : Program) (f : Nat) : Bool := match P.funcs[f]? with
  | some fn => fn.body.isNone && (fn.name == "internal/bytealg.IndexByteString") && (fn.origin == "")
  | none => false
def idxK : Str → Nat → Nat → (Int → Bool) → Bool
  | [], _, _, K => K (.negSucc 0)
  | .c b :: l, n, k, K => match Nat.beq b n with
    | true => frn k fun k => K (.ofNat k)
    | false => idxK l n (Nat.succ k) K
  | .a _ :: _, _, _, _ => false
def opIdx (fi vs ca : List SV) (m : Mem) (nx : Nat) (pc : PC) (K : KK) : Bool := match fi, vs, ca with
  | [], [.s l, .i .u8 (.ofNat n)], [] => match knownS l && Nat.ble n 255 with
    | true => idxK l n 0 fun i => K (.i .i64 i) m nx pc .n
    | false => false
  | _, _, _ => false
def opx (P : Program) (call : CallT) (s : Tr SV) (m : Mem) (nx : Nat) (pc : PC) (o : Oper) (K : KK) : Bool := match o.op with
  | .move x => evO s x fun v => K v m nx pc .n
  | .assign x => evO s x fun v => K v m nx pc .n
  | .pick c a b => opPick s m nx pc c a b K
  | .load t x => opLoad P s m nx pc t x K
  | .store t x y => opStore P s m nx pc t x y K
  | .fieldAddr t x f => opFieldAddr P s m nx pc t x f K
  | .nilCheck x => opNil s m nx pc x K
  | .binOp op t x y _ => opBin P s m nx pc op t x y K
  | .unOp op _ x => opUn s m nx pc op x K
  | .indexAddr t x y => opIndexAddr P s m nx pc t x y K
  | .extract x i => opExtract s m nx pc x i K
  | .call c => match c.callee with
    | .value f => evO s f fun v => match v with
      | .fn f fi ca => evL s c.args.toList fun vs => match isSame P f with
        | true => match fi, vs, ca with
          | [], [v], [] => K v m nx pc .n
          | _, _, _ => false
        | false => match isIdx P f with
          | true => opIdx fi vs ca m nx pc K
          | false => appC fi vs fun l => appC l ca fun l => call f l m nx pc fun v m nx pc => K v m nx pc .c
      | _ => false
    | .builtin b => opBuiltin P s m nx pc b c.args.toList c.argTypes.toList K
    | .invoke _ _ => false
  | .alloc t => opAlloc P m nx pc t K
  | .box t x => opBox s m nx pc t x K
  | .build t ps => opBuild P s m nx pc t ps.toList K
  | .buildSlice t n ps => opBuildSlice P s m nx pc t n ps.toList K
  | .convert a b x => opConv P s m nx pc a b x K
  | .makeFunc f fi ca => opFunc s m nx pc f fi.toList ca.toList K
  | .makeMap _ r => opMakeMap m nx pc r K
  | .makeSlice t x y => opMakeSlice P s m nx pc t x y K
  | .slice t x l h c => opSlice P s m nx pc t x l h c K
  | .field t x f => opField P s m nx pc t x f K
  | .index t x y => opIndex P s m nx pc t x y K
  | .lookup t x y ok => opLookup P s m nx pc t x y ok K
  | .mapUpdate t x y z => opUpdate P s m nx pc t x y z K
  | .insert t x y z => opUpdate P s m nx pc t x y z K
  | _ => false
end X
end Go.Proofs.YtebfahobllghnaaGreatDoor
namespace Go.Proofs.YtebfahobllghnaaGreatDoor
namespace X
open Go.RowKit B
def dstAt : List Oper → Nat → Option Nat
  | [], _ => none
  | o :: _, 0 => o.dst
  | _ :: l, i + 1 => dstAt l i
def ex1 (P : Program) (call : CallT) (ops : List Oper) (s : Tr SV) (m : Mem) (nx : Nat) (pc : PC) (o : Oper) (K : KK) : Bool := match o.guard with
  | none => opx P call s m nx pc o K
  | some (j, want) => match dstAt ops j with
    | some d => match s.get d with
      | some (.b b) => match b, want with
        | true, true => opx P call s m nx pc o K
        | false, false => opx P call s m nx pc o K
        | _, _ => K .un m nx pc .n
      | some .un => K .un m nx pc .n
      | _ => false
    | none => false
def putS (s : Tr SV) (d : Option Nat) (v : SV) (K : Tr SV → Bool) : Bool := match d with
  | none => K s
  | some d => s.set d (some v) K
abbrev KR := Tr SV → Mem → Nat → PC → Bool
def exS (P : Program) (call : CallT) (ops : List Oper) : List Oper → Tr SV → Mem → Nat → PC → KR → Bool
  | [], s, m, nx, pc, K => K s m nx pc
  | o :: l, s, m, nx, pc, K => ex1 P call ops s m nx pc o fun v m nx pc _ => putS s o.dst v fun s => exS P call ops l s m nx pc K
structure FE where
  i : Nat
  ft : Ft
  m0 : Mem
  m1 : Mem
def exD (P : Program) (call : CallT) (ops : List Oper) : List Oper → Nat → Tr SV → Mem → Nat → PC → List FE → (Tr SV → Mem → Nat → PC → List FE → Bool) → Bool
  | [], _, s, m, nx, pc, acc, K => K s m nx pc acc
  | o :: l, i, s, m, nx, pc, acc, K => ex1 P call ops s m nx pc o fun v m' nx pc ft => putS s o.dst v fun s => match ft with
    | .n => exD P call ops l (Nat.succ i) s m' nx pc acc K
    | ft => exD P call ops l (Nat.succ i) s m' nx pc (⟨i, ft, m, m'⟩ :: acc) K
def eqTs : List (Nat × Int) → List (Nat × Int) → Bool
  | [], [] => true
  | (i, a) :: l, (j, b) :: m => Nat.beq i j && eqI a b && eqTs l m
  | _, _ => false
def eqLin : Lin → Lin → Bool
  | .mk c l, .mk d m => eqI c d && eqTs l m
mutual
def eqV : SV → SV → Bool
  | .i k p, .i j q => ikEq k j && eqI p q
  | .x k p, .x j q => ikEq k j && eqLin p q
  | .b a, .b b => a == b
  | .s a, .s b => eqStr a b
  | .p t i, .p u j => Nat.beq t u && Nat.beq i j
  | .np, .np => true
  | .sl t o n c, .sl t' o' n' c' => Nat.beq t t' && Nat.beq o o' && Nat.beq n n' && (match c, c' with
    | .k a, .k b => Nat.beq a b
    | .q a, .q b => Nat.beq a b
    | _, _ => false)
  | .sb t l, .sb t' l' => Nat.beq t t' && eqStr l l'
  | .ns, .ns => true
  | .ag l, .ag m => eqVs l m
  | .tu l, .tu m => eqVs l m
  | .fn f a b, .fn g c d => Nat.beq f g && eqVs a c && eqVs b d
  | .nf, .nf => true
  | .ni, .ni => true
  | .nm, .nm => true
  | .mp t, .mp u => Nat.beq t u
  | .su t, .su u => Nat.beq t u
  | .g a b, .g c d => Nat.beq a c && Nat.beq b d
  | .un, .un => true
  | .sx t n, .sx u k => Nat.beq t u && Nat.beq n k
  | .tp t e, .tp u k => Nat.beq t u && eqLin e k
  | _, _ => false
def eqVs : List SV → List SV → Bool
  | [], [] => true
  | a :: l, b :: m => eqV a b && eqVs l m
  | _, _ => false
end
def eqEs : List (SV × SV × Nat) → List (SV × SV × Nat) → Bool
  | [], [] => true
  | (a, b, n) :: l, (c, d, k) :: m => eqV a c && eqV b d && Nat.beq n k && eqEs l m
  | _, _ => false
def eqNs : List Nat → List Nat → Bool
  | [], [] => true
  | a :: l, b :: m => Nat.beq a b && eqNs l m
  | _, _ => false
def eqBlk : Option Blk → Option Blk → Bool
  | none, none => true
  | some (.ce t a x), some (.ce u b y) => Nat.beq t u && eqVs a b && (x == y)
  | some (.bt t a), some (.bt u b) => Nat.beq t u && eqStr a b
  | some (.mp a c), some (.mp b d) => eqEs a b && Nat.beq c d
  | some (.ob t a), some (.ob u b) => Nat.beq t u && eqStr a b
  | some (.cv a), some (.cv b) => eqVs a b
  | some (.cq n b), some (.cq k d) => Nat.beq n k && Nat.beq b d
  | some (.cx t n b), some (.cx u k d) => Nat.beq t u && Nat.beq n k && Nat.beq b d
  | some (.hb k a b), some (.hb j c d) => eqNs k j && eqStr a c && eqStr b d
  | _, _ => false
def memN (t : Nat) : List Nat → Bool
  | [] => false
  | k :: l => match Nat.beq k t with
    | true => true
    | false => memN t l
def apartN : List Nat → List Nat → Bool
  | [], _ => true
  | t :: l, m => !memN t m && apartN l m
def newTo (m0 m1 : Mem) : List Nat → Bool
  | [] => true
  | t :: l => match m0.get t, m1.get t with
    | none, none => newTo m0 m1 l
    | _, _ => false
def indFt (a b : FE) : Bool := match a.ft, b.ft with
  | .n, _ => true
  | _, .n => true
  | .r _, .r _ => true
  | .r t, .w ts => !memN t ts || eqBlk (b.m0.get t) (b.m1.get t)
  | .w ts, .r t => !memN t ts || eqBlk (a.m0.get t) (a.m1.get t)
  | .w ts, .w us => apartN ts us
  | .c, .r t => eqBlk (a.m0.get t) (a.m1.get t)
  | .r t, .c => eqBlk (b.m0.get t) (b.m1.get t)
  | .c, .w ts => newTo a.m0 a.m1 ts
  | .w ts, .c => newTo b.m0 b.m1 ts
  | .c, .c => false
def okWith (bf : List Nat) (x : FE) : List FE → Bool
  | [] => true
  | y :: l => (((bf.getD x.i 0).testBit y.i) || indFt y x) && okWith bf x l
def okAcc (bf : List Nat) : List FE → Bool
  | [] => true
  | x :: l => okWith bf x l && okAcc bf l
def okSlot (ops : List Oper) (x y : Oper) : Bool := match x.dst with
  | none => (match y.dst with
    | none => true
    | some e => !memN e (reads ops.toArray x))
  | some d => !memN d (reads ops.toArray y) && (match y.dst with
    | none => true
    | some e => !Nat.beq d e && !memN e (reads ops.toArray x))
def okSlF (ops : List Oper) (bf : List Nat) (x : Oper) (i : Nat) : List Oper → Nat → Bool
  | [], _ => true
  | y :: l, j => (((bf.getD j 0).testBit i) || okSlot ops x y) && okSlF ops bf x i l (Nat.succ j)
def okSls (ops : List Oper) (bf : List Nat) : List Oper → Nat → Bool
  | [], _ => true
  | x :: l, i => okSlF ops bf x i l (Nat.succ i) && okSls ops bf l (Nat.succ i)
def bfOf (ops : List Oper) : List Nat := (Region.before ops.toArray).toList
def okForm (ops : List Oper) : Bool := okAft ops.toArray && okBf ops.toArray (bfOf ops) && okSls ops (bfOf ops) ops 0
def exR (P : Program) (call : CallT) (ops : List Oper) (draw : Bool) (s : Tr SV) (m : Mem) (nx : Nat) (pc : PC) (K : KR) : Bool := match draw with
  | false => exS P call ops ops s m nx pc K
  | true => match okForm ops with
    | true => exD P call ops ops 0 s m nx pc [] fun s m nx pc acc => match okAcc (bfOf ops) acc with
      | true => K s m nx pc
      | false => false
    | false => false
inductive AX where
  | normal
  | exit (id : Nat)
  | ret
abbrev KC := AX → Tr SV → Mem → Nat → PC → Bool
def argC : List SV → Nat → Tr SV → (Tr SV → Bool) → Bool
  | [], _, s, K => K s
  | v :: l, i, s, K => s.set i (some v) fun s => argC l (Nat.succ i) s K
def resC (P : Program) (s : Tr SV) (m : Mem) : List ResultVar → (List SV → Bool) → Bool
  | [], K => K []
  | .tmp t :: l, K => match s.get t with
    | some v => resC P s m l fun r => K (v :: r)
    | none => false
  | .cell a t :: l, K => match mkTy P t, s.get a with
    | some y, some (.p g off) => match m.get g with
      | some (.ce _ cs _) => partC y cs off fun v => resC P s m l fun r => K (v :: r)
      | _ => false
    | _, _ => false
def retV : List SV → SV
  | [v] => v
  | l => .tu l
def dstOk (n : Nat) : Code → Bool
  | .region _ ops _ => ops.toList.all fun o => match o.dst with | some d => Nat.ble (Nat.succ d) n | none => true
  | .seq a b => dstOk n a && dstOk n b
  | .cond _ a b => dstOk n a && dstOk n b
  | .block _ c => dstOk n c
  | .loop c => dstOk n c
  | _ => true
abbrev SumT := Nat → Option (List SV → Mem → Nat → PC → (SV → Mem → Nat → PC → Bool) → Bool)
def callBy (P : Program) (sm : SumT) (E : Code → Tr SV → Mem → Nat → PC → KC → Bool) : CallT := fun f args m nx pc K => match sm f with
  | some h => h args m nx pc K
  | none => match P.funcs[f]? with
    | some fn => match fn.body with
      | some c => match !(fn.name == "runtime.NumGoroutine") && Nat.ble args.length fn.ntmps && dstOk fn.ntmps c with
        | true => argC args 0 .lf fun s => E c s m nx pc fun e s m nx pc => match e with
          | .exit _ => false
          | _ => resC P s m fn.results.toList fun vs => K (retV vs) m nx pc
        | false => false
      | none => false
    | none => false
def ev (P : Program) (sm : SumT) : Nat → Code → Tr SV → Mem → Nat → PC → KC → Bool
  | 0, _, _, _, _, _, _ => false
  | f + 1, c, s, m, nx, pc, K => match c with
    | .skip => K .normal s m nx pc
    | .label _ => K .normal s m nx pc
    | .region _ ops draw => exR P (callBy P sm (ev P sm f)) ops.toList draw s m nx pc fun s m nx pc => K .normal s m nx pc
    | .seq a b => ev P sm f a s m nx pc fun e s m nx pc => match e with
      | .normal => ev P sm f b s m nx pc K
      | e => K e s m nx pc
    | .cond c a b => evO s c fun v => match v with
      | .b t => match t with
        | true => ev P sm f a s m nx pc K
        | false => ev P sm f b s m nx pc K
      | _ => false
    | .block id c => ev P sm f c s m nx pc fun e s m nx pc => match e with
      | .exit i => match Nat.beq i id with
        | true => K .normal s m nx pc
        | false => K (.exit i) s m nx pc
      | e => K e s m nx pc
    | .loop c => ev P sm f c s m nx pc fun e s m nx pc => match e with
      | .normal => ev P sm f (.loop c) s m nx pc K
      | e => K e s m nx pc
    | .exit id => K (.exit id) s m nx pc
    | .ret => K .ret s m nx pc
    | _ => false
def insI (n : Int) : List Int → List Int
  | [] => [n]
  | k :: l => match leI n k with
    | true => n :: k :: l
    | false => k :: insI n l
def keysI : List (SV × SV × Nat) → (List Int → Bool) → Bool
  | [], K => K []
  | (.i .i64 n, _, _) :: l, K => keysI l fun r => K (insI n r)
  | _, _ => false
def svI : List Int → (List SV → Bool) → Bool
  | [], K => K []
  | n :: l, K => svI l fun r => K (.i .i64 n :: r)
def notIn (n : Int) (b : Nat) : List (SV × SV × Nat) → Bool
  | [] => true
  | (.i .i64 k, _, c) :: l => !eqI n k && !Nat.beq b c && notIn n b l
  | _ => false
def mapOk : List (SV × SV × Nat) → Nat → Bool
  | [], _ => true
  | (.i .i64 n, _, b) :: l, ck => leI (-9223372036854775808) n && leI n 9223372036854775807 && Nat.blt b ck && notIn n b l && mapOk l ck
  | _, _ => false
def sortedKeys (ks : List Nat) (e : Nat) (args : List SV) (m : Mem) (nx : Nat) (pc : PC) (K : SV → Mem → Nat → PC → Bool) : Bool := match args with
  | [.fn f [] [.p t 0]] => match memN f ks with
    | true => match m.get t with
      | some (.ce _ [.nm] _) => K .ns m nx pc
      | some (.ce _ [.mp g] _) => match m.get g with
        | some (.mp es ck) => match mapOk es ck && Nat.ble es.length 1000 with
          | true => keysI es fun l => match l with
            | [] => K .ns m nx pc
            | l => svI l fun cs => newB m nx (.ce e cs false) fun m nx' => frn (lenC cs 0) fun n => K (.sl nx 0 n (.q 1)) m nx' pc
          | false => false
        | _ => false
      | _ => false
    | false => false
  | _ => false
end X
end Go.Proofs.YtebfahobllghnaaGreatDoor
