/-
  TopPlainText: what is known of calls below crew.Insert and follow.Do (definitions).
-/
import Derived.Test.YtdbchpoaoghgpaaGreatDoorP4
set_option linter.unusedSimpArgs false
set_option linter.unusedVariables false
namespace Go.Proofs.YtdbchpoaoghgpaaGreatDoor
namespace X
open Go.RowKit B

def noS : SumF := fun _ _ _ _ _ => false
/-! ### Span: 9000, 9002; the lesser 9004, the greater 9006 -/
def kSpan : Known := ⟨[.ag [xl (lv 9000), xl (lv 9002)]], [], 0, [], .ag [xl (lv 9004), xl (lv 9006)], [], 100, []⟩
def rSpan : Rules := ⟨[], [([.mk 0 [(9000, -1), (9002, 1)]], lv 9004, lv 9000), ([.mk (-1) [(9000, 1), (9002, -1)]], lv 9004, lv 9002), ([.mk 0 [(9000, -1), (9002, 1)]], lv 9006, lv 9002), ([.mk (-1) [(9000, 1), (9002, -1)]], lv 9006, lv 9000)]⟩
/-- what is selected: elements dId j lie from segF j up to segT j -/
def segs (g : Nat) : Str := .a 20 :: catL (fun j => [.a (Nat.add 21 (Nat.mul 2 j)), .a (Nat.add 22 (Nat.mul 2 j))]) (upto 0 g)
def segF (j : Nat) : Lin := lenS (mapL Pc.a (upto 20 (Nat.succ (Nat.mul 2 j))))
def segT (j : Nat) : Lin := lenS (mapL Pc.a (upto 20 (Nat.succ (Nat.succ (Nat.mul 2 j)))))
def elJ (g i : Nat) : Option Nat := match Nat.ble 2768 i && Nat.blt i (Nat.add 2768 (Nat.mul 8 g)) && Nat.beq (Nat.mod i 8) 0 with
  | true => some (Nat.div (Nat.sub i 2768) 8)
  | false => none
inductive Sp where
  | no
  | el (j : Nat)
  | at (e : Lin)
/-- what a selection is: an element, a caret -/
def spOf (g : Nat) (v : SV) : Sp := match v with
  | .ag [.x .i64 (.mk 0 [(i, 1)]), .x .i64 (.mk 0 [(i', 1)])] => match elJ g i with
    | some j => match Nat.beq i' (Nat.add i 2) with
      | true => .el j
      | false => .no
    | none => match Nat.beq i i' with
      | true => .at (.mk 0 [(i, 1)])
      | false => .no
  | .ag [.x .i64 a, .x .i64 b] => match eqLin a b with
    | true => .at a
    | false => .no
  | _ => .no
def spanD (g : Nat) (f : SumF) : SumF := fun args m nx pc K => match args with
  | [v] => match spOf g v with
    | .el j => cutP rN kSpan ⟨[], [(4500, lv (eA (dId j))), (4501, lv (eH (dId j))), (4502, segF j), (4503, segT j)]⟩ args m nx pc K
    | .at a => cutP rN kSpan ⟨[], [(4500, a), (4501, a), (4502, a), (4503, a)]⟩ args m nx pc K
    | .no => f args m nx pc K
  | _ => false
/-! ### What order sorts by: spans 9008, 9010; 9012, 9014 -/
def cmpA : List SV := [.ag [xl (lv 9000), xl (lv 9002)], .ag [xl (lv 9004), xl (lv 9006)]]
def kCmp (p : PC) (n : Int) : Known := ⟨cmpA, [], 0, p, .i .i64 n, [], 400, []⟩
def cP0 : PC := [gt (lv 9012) (lv 9008)]
def cP1 : PC := [gt (lv 9008) (lv 9012)]
def cEq : PC := [ge (lv 9008) (lv 9012), ge (lv 9012) (lv 9008)]
def cP2 : PC := gt (lv 9014) (lv 9010) :: cEq
def cP3 : PC := gt (lv 9010) (lv 9014) :: cEq
def cP4 : PC := ge (lv 9010) (lv 9014) :: ge (lv 9014) (lv 9010) :: cEq
def spanC : SumF := fun args m nx pc K => match args with
  | [.ag [.x .i64 (.mk 0 [(9000, 1)]), _]] => cutP rN kSpan ⟨[], [(4500, lv 9000), (4501, lv 9002), (4502, lv 9008), (4503, lv 9010)]⟩ args m nx pc K
  | [.ag [.x .i64 (.mk 0 [(9004, 1)]), _]] => cutP rN kSpan ⟨[], [(4500, lv 9004), (4501, lv 9006), (4502, lv 9012), (4503, lv 9014)]⟩ args m nx pc K
  | _ => false
def endsOf : Sp → Option (Lin × Lin × Lin × Lin)
  | .el j => some (lv (eA (dId j)), lv (eH (dId j)), segF j, segT j)
  | .at a => some (a, a, a, a)
  | .no => none
def τC (a b c d e f g h : Lin) : Sb := ⟨[], [(4500, a), (4501, b), (4502, e), (4503, f), (4504, c), (4505, d), (4506, g), (4507, h)]⟩
def cmpD (g : Nat) (f : SumF) : SumF := fun args m nx pc K => match args with
  | [u, v] => match endsOf (spOf g u), endsOf (spOf g v) with
    | some (a, b, c, d), some (a', b', c', d') => dec2 pc (ge c' c) fun r pc => match r with
      | false => cutP rN (kCmp cP1 1) (τC a b c d a' b' c' d') args m nx pc K
      | true => dec2 pc (ge c c') fun r pc => match r with
        | false => cutP rN (kCmp cP0 (-1)) (τC a b c d a' b' c' d') args m nx pc K
        | true => dec2 pc (ge d' d) fun r pc => match r with
          | false => cutP rN (kCmp cP3 1) (τC a b c d a' b' c' d') args m nx pc K
          | true => dec2 pc (ge d d') fun r pc => match r with
            | false => cutP rN (kCmp cP2 (-1)) (τC a b c d a' b' c' d') args m nx pc K
            | true => cutP rN (kCmp cP4 0) (τC a b c d a' b' c' d') args m nx pc K
    | _, _ => f args m nx pc K
  | _ => false
/-! ### Move by one edit: 9000; from 9002 up to 9004, string 6 -/
def mvL : ML := [(0, .ce 132 [xl (lv 9002), xl (lv 9004), .s [.a 6]] true)]
def kMv (r : Bool) (p : PC) (v : Lin) : Known := ⟨[xl (lv 9000), .b r, .sl 0 0 1 (.k 1)], mvL, 1, p ++ [.mk 1000 [(9000, -1)], .mk 1000 [(9000, 1)], .mk 1000 [(9002, -1)], .mk 1000 [(9002, 1)], .mk 1000 [(9004, -1)], .mk 1000 [(9004, 1)], .mk 1000 [(25, -1)]], xl v, mvL, 100, []⟩
def mP1 : PC := [gt (lv 9002) (lv 9000)]
def mP2 : PC := [ge (lv 9004) (lv 9002), gt (lv 9000) (lv 9004)]
def mP3 : PC := [ge (lv 9000) (lv 9002), ge (lv 9004) (lv 9000)]
def mV2 : Lin := .mk 0 [(25, 1), (9000, 1), (9002, 1), (9004, -1)]
def mV3 : Lin := .mk 0 [(25, 1), (9002, 1)]
def linV : SV → Option Lin
  | .x .i64 e => some e
  | .i .i64 n => some (.mk n [])
  | _ => none
def τM (a f t : Lin) (tx : Str) : Sb := ⟨[(6, tx)], [(4500, a), (4501, f), (4502, t)]⟩
def moveD (f : SumF) : SumF := fun args m nx pc K => match args with
  | [v, .b r, .sl e 0 1 (.k 1)] => match linV v, m.get e with
    | some x, some (.ce _ [fv, tv, .s tx] true) => match linV fv, linV tv with
      | some f1, some t1 => dec2 pc (gt f1 x) fun q pc => match q with
        | true => cutP rN (kMv r mP1 (lv 9000)) (τM x f1 t1 tx) args m nx pc K
        | false => dec2 pc (gt x t1) fun q pc => match q with
          | true => cutP rN (kMv r mP2 mV2) (τM x f1 t1 tx) args m nx pc K
          | false => match r with
            | true => cutP rN (kMv true mP3 mV3) (τM x f1 t1 tx) args m nx pc K
            | false => cutP rN (kMv false mP3 (lv 9002)) (τM x f1 t1 tx) args m nx pc K
      | _, _ => false
    | _, _ => f args m nx pc K
  | args => f args m nx pc K
/-! ### Tallies: by the text's code -/
def encS : Str → Option Nat
  | [] => some 0
  | .a i :: l => match Nat.ble 6 i && Nat.blt i 63 with
    | true => (match encS l with
      | some c => some (Nat.add (Nat.succ i) (Nat.mul 64 c))
      | none => none)
    | false => none
  | .c _ :: _ => none
/-- string 2000 + 3 c, and the next two -/
def tlS (c : Nat) : Nat := Nat.add 2000 (Nat.mul 3 c)
def tlB (c : Nat) : Nat := Nat.add 8001 (Nat.mul 12 c)
def addNew : PC → PC → PC
  | [], pc => pc
  | e :: l, pc => match memP e pc with
    | true => addNew l pc
    | false => e :: addNew l pc
def tallyD (f : SumF) : SumF := fun args m nx pc K => match args with
  | [.s (.a i :: l)] => match encS (.a i :: l) with
    | some c => frn (tlB c) fun b => match proves pc ((Lin.mk 400 []).sub (lenS (.a i :: l))) with
      | true => cutP rN kTallyD ⟨[(6, .a i :: l), (9, [.a (tlS c)]), (10, [.a (Nat.succ (tlS c))]), (11, [.a (Nat.succ (Nat.succ (tlS c)))])], []⟩ args m nx pc fun v m nx pc => K v m nx (addNew [le' (lv b) 1000, le' (lv (Nat.add b 4)) 1000, le' (lv (Nat.add b 8)) 1000, ge (lenS (.a i :: l)) (lv b)] pc)
      | false => false
    | none => false
  | args => f args m nx pc K
def codeG (g : Nat) : Nat := match encS (segs g) with
  | some c => c
  | none => 0
def textS (g : Nat) : List (Nat × Str) := [(6, segs g), (9, [.a (tlS (codeG g))]), (10, [.a (Nat.succ (tlS (codeG g)))]), (11, [.a (Nat.succ (Nat.succ (tlS (codeG g))))])]
/-! ### Lines: of the selection j: its line 7000 + 2 j, the indentation string 60 + j -/
def lnJ (j : Nat) : Nat := Nat.add 7000 (Nat.mul 2 j)
def placeD (g : Nat) : SumF := fun args m nx pc K => match args with
  | [_, v, _] => match spOf g v with
    | .el j => cutP rN kPlace ⟨textS g, [(4500, lv (eA (dId j))), (4501, lv (eH (dId j)))]⟩ args m nx pc K
    | _ => false
  | _ => false
def atD (g : Nat) : Nat → SumF
  | 0 => noS
  | j + 1 => fun args m nx pc K => match args with
    | [_, .x .i64 e] => match eqLin e (segF j) with
      | true => cutP rN kAt ⟨textS g, [(4500, segF j), (4501, lv (lnJ j))]⟩ args m nx pc K
      | false => atD g j args m nx pc K
    | _ => false
def indD (g : Nat) : SumF := fun args m nx pc K => match args with
  | [_, .x .i64 (.mk 0 [(i, 1)])] => match Nat.ble 7000 i && Nat.blt i 7012 && Nat.beq (Nat.mod i 2) 0 with
    | true => cutP rN kInd ⟨(7, [.a (Nat.add 60 (Nat.div (Nat.sub i 7000) 2))]) :: textS g, [(4500, lv i)]⟩ args m nx pc K
    | false => false
  | _ => false
/-! ### Read, Make of one text -/
def snipC (l : Str) : List SV := [okV0, .s l, okV0, .b false, .b false, okV0, .s [], .b false, .ns, okV0, okV0, .b false, .ns, .ns, .b false, .b false, .ns, .ns]
def stopC (n : SV) : List SV := [n, n, okV0, .i .i64 (.negSucc 0), .b true, .b false, okV0, .s [], .b false, .ns, okV0, okV0, .b false, .ns, .ns, .b false, .b false, .ns]
def snipB : Blk := .ce 266 (snipC [.a 7]) false
def f7 : PC := [.mk 40 [(29, -1)], .mk (-1) [(29, 1)]]
def v5P : PC := [.mk 0 [(1000, 1)], .mk 0 [(1000, -1)]]
def kMake : Known := ⟨[.sl 0 0 1 (.q 18), .su 1, .s [.a 9], .s []], [(0, snipB)], 2, .mk 60 [(37, -1)] :: f7, .tu [.s [.a 7], .sl 2 0 1 (.q 18), okV0], [(0, snipB), (2, .ce 155 (stopC (xl (lv 29))) false)], 600, []⟩
def kMake0 : Known := ⟨[.ns, .su 1, .s [.a 9], .s []], [], 2, [.mk 60 [(37, -1)]], .tu [.s [], .sl 2 0 1 (.q 18), okV0], [(2, .ce 155 (stopC okV0) false)], 600, []⟩
def makeD : SumF := fun args m nx pc K => match args with
  | [.sl _ 0 1 _, _, .s [.a i], _] => cutP rN kMake ⟨[(7, [.a 7]), (9, [.a i])], []⟩ args m nx pc K
  | [.ns, _, .s [.a i], _] => cutP rN kMake0 ⟨[(9, [.a i])], []⟩ args m nx pc K
  | _ => false
def kRead : Known := ⟨[.s [.a 8]], [], 1, .mk 80 [(33, -1)] :: .mk (-1) [(33, 1)] :: f7, .tu [.sl 1 0 1 (.q 18), okV0], [(1, snipB)], 300, []⟩
def smW (g : Nat) (ks : List Nat) (f : SumF) : SumT := withF 81 (spanD g f) (withF 133 (cmpD g noS) (withF 175 (moveD noS) (withF 77 (sortedKeys ks 3) (fun _ => none))))
/-! ### What is put in, typed: the text behind it, the carets (7100 + 2 j) -/
def N3 : Str := [.a 10, .a 13, .a 12]
def carJ (j : Nat) : Nat := Nat.add 7100 (Nat.mul 2 j)
/-- what stands then up to the end of the j-th -/
def newS (S : Str) (j : Nat) : Str := catL (fun i => appL [.a (Nat.add 20 (Nat.mul 2 i))] S) (upto 0 (Nat.succ j))
def newT (g : Nat) (S : Str) : Str := appL (newS S (Nat.pred g)) [.a (Nat.add 20 (Nat.mul 2 g))]
def carV (j : Nat) : SV := xl (lv (carJ j))
def carC (g : Nat) : List SV := catL (fun j => [carV j, carV j]) (upto 0 g)
def dC (g : Nat) : List SV := selsC (mapL dId (upto 0 g))
def rW (g : Nat) (S : Str) : Rules := ⟨[([], N3, newT g S)], mapL (fun j => ([], lv (carJ j), lenS (newS S j))) (upto 0 g)⟩
/-- lengths: between them there is something; 60 at most; s; lines -/
def segP (g : Nat) : PC := appL (catL (fun j => [ge (lv (eA (dId j))) (segF j), ge (lv (eH (dId j))) (segF j), ge (segT j) (lv (eA (dId j))), ge (segT j) (lv (eH (dId j)))]) (upto 0 g)) (appL (mapL (fun j => ge (lenS [.a (Nat.add 20 (Nat.mul 2 j))]) (.mk 1 [])) (upto 1 (Nat.pred g))) [le' (lenS (segs g)) 60, ge (lenS (segs g)) (.mk 1 [])])
def lnP (g : Nat) : PC := catL (fun j => [lv (lnJ j), ge (lv (tlB (codeG g))) (lv (lnJ j)), le' (lenS [.a (Nat.add 60 j)]) 60]) (upto 0 g)
def sP (e : Bool) : PC := match e with
  | true => []
  | false => f7
def insA (g : Nat) (e : Bool) : List SV := [.ag [.s (segs g), .sl 0 0 g (.q 2), .ns], (match e with | true => .ns | false => .sl 1 0 1 (.q 18)), .ns]
def insL (g : Nat) (e : Bool) : ML := (0, .ce 51 (dC g) false) :: (match e with
  | true => []
  | false => [(1, snipB)])
def insV (g : Nat) : SV := .tu [.ag [.s N3, .sl 2 0 g (.q 2), .sl 3 0 0 (.q 2)], okV0]
def insR (g : Nat) : ML := [(2, .ce 51 (carC g) false)]
def textP (g : Nat) (e : Bool) : Str := match e with
  | true => []
  | false => [.a 7]
/-- what is selected, anew: edits -/
def ediC (g : Nat) (S : Str) : List SV := catL (fun j => [xl (segF j), xl (segT j), .s S]) (upto 0 g)
def fdoA (g : Nat) : List SV := [.ag [.s (segs g), .sl 0 0 g (.q 2), .ns], .sl 1 0 g (.q 3)]
def fdoL (g : Nat) (e : Bool) : ML := [(0, .ce 51 (dC g) false), (1, .ce 132 (ediC g (textP g e)) false)]
/-! the edits are laid -/
def workB (l : Str) (t g : Nat) : Blk := .ce 251 [.s l, .sl t 0 g (.q 2), .ns] true
def ediB (g : Nat) (e : Bool) : Blk := .ce 132 (ediC g (textP g e)) false
def carL (g : Nat) (S : Str) : List SV := catL (fun j => [svx .i64 (lenS (newS S j)), svx .i64 (lenS (newS S j))]) (upto 0 g)
def ediP (g : Nat) (e : Bool) : PC := appL (segP g) (sP e)
def kEdi (g : Nat) (e : Bool) : Known := ⟨[.p 0 0, .sl 2 0 g (.q 3)], [(0, workB (segs g) 1 g), (1, .ce 51 (dC g) false), (2, ediB g e)], 3, ediP g e, .tu [], [(0, workB (newT g (textP g e)) 3 g), (3, .ce 51 (carL g (textP g e)) false), (2, ediB g e)], 60000, []⟩
/-- a call that is known, as it stands -/
def cutI (rs : Rules) (k : Known) : SumF := factS k.pc0 (cutG rs k.a0 k.l0 k.nx0 k.pc0 k.v1 k.l1 k.nx1 k.pc1)
def smWE (g : Nat) (e : Bool) (ks : List Nat) (f : SumF) : SumT := withF 90 (cutI rN (kEdi g e)) (smW g ks f)
def smI (g : Nat) (e : Bool) (ks : List Nat) (f ft : SumF) : SumT := withF 236 (tallyD ft) (withF 162 (placeD g) (withF 137 (atD g g) (withF 163 (indD g) (withF 164 makeD (smWE g e ks f)))))
def fdoV (g : Nat) : SV := .tu [.ag [.s N3, .sl 2 0 g (.q 2), .ns], okV0]
end X
end Go.Proofs.YtdbchpoaoghgpaaGreatDoor

set_option linter.unusedSimpArgs false
set_option linter.unusedVariables false
namespace Go.Proofs.YtdbchpoaoghgpaaGreatDoor
namespace X
open Go.RowKit B

noncomputable def fSp : SumF := callBy Tryz.prog smZ (ev Tryz.prog smZ 1000000) 81
def insP (g : Nat) (e : Bool) : PC := appL (segP g) (appL (lnP g) (sP e))
def kIns (g : Nat) (e : Bool) : Known := ⟨insA g e, insL g e, 2, insP g e, insV g, insR g, 400000, []⟩
def fdoP (g : Nat) (e : Bool) : PC := appL (segP g) (sP e)
def kFdo (g : Nat) (e : Bool) : Known := ⟨fdoA g, fdoL g e, 2, fdoP g e, fdoV g, insR g, 400000, []⟩
noncomputable def ediK (g : Nat) (e : Bool) : Bool := runK (go (smW g [131, 288] fSp) 90) (kEdi g e).a0 (kEdi g e).l0 (ediP g e) rN (kEdi g e)
noncomputable def insK (g : Nat) (e : Bool) : Bool := runK (go (smI g e [131, 288] fSp fT) 56) (insA g e) (insL g e) (insP g e) (rW g (textP g e)) (kIns g e)
noncomputable def fdoK (g : Nat) (e : Bool) : Bool := runK (go (smWE g e [131, 288] fSp) 52) (fdoA g) (fdoL g e) (fdoP g e) (rW g (textP g e)) (kFdo g e)
end X
end Go.Proofs.YtdbchpoaoghgpaaGreatDoor

set_option linter.unusedSimpArgs false
set_option linter.unusedVariables false
namespace Go.Proofs.YtdbchpoaoghgpaaGreatDoor
namespace X
open Go.RowKit B

def W3 : Str := [.a 10, .a 11, .a 12]
def i64 (n : Nat) : SV := .i .i64 (.ofNat n)
/-! ### plain -/
def textQ : PC := [le' (lenS W3) 60, ge (lenS W3) (.mk 1 [])]
/-- Low of the k-th numbers -/
def lowD (top : Lin) : SumF := fun args m nx pc K => match args with
  | [.x .i64 (.mk 0 [(i, 1)]), v] => match Nat.ble 4000 i && Nat.ble i 4022 && Nat.beq (Nat.mod i 2) 0 && (match linV v with | some e => eqLin e top | none => false) with
    | true => match Nat.beq (Nat.mod i 4) 0 with
      | true => K (xv (eA (Nat.div (Nat.sub i 4000) 4))) m nx pc
      | false => K (xv (eH (Nat.div (Nat.sub i 4000) 4))) m nx pc
    | false => false
  | _ => false
def topW : Lin := (Lin.mk 1 []).add (lenS W3)
/-- .. of nothing: 0 -/
def low0 : SumF := fun args m nx pc K => match args with
  | [.x .i64 _, .i .i64 (.ofNat 1)] => K okV0 m nx pc
  | _ => false
def rNm : Rules := ⟨[], [([], lv 25, lenS W3)]⟩
def isIn (n : Nat) (args : List SV) (m : Mem) : Bool := match args with
  | [.x .i64 _, .sl t 0 k (.q 2)] => Nat.beq k n && (match m.get t with
    | some (.ce _ (.x _ (.mk 0 [(2000, 1)]) :: _) _) => true
    | _ => false)
  | _ => false
/-- Norm of what is selected -/
def normD (n g : Nat) (f : SumF) : SumF := fun args m nx pc K => match isIn n args m with
  | true => cutG rNm [xv 25, .sl 0 0 n (.q 2)] [(0, .ce 51 (selsC (upto 0 n)) false)] 1 [] (.tu [.sl 1 0 g (.q 2), okV0]) [(1, .ce 51 (selsC (mapL dId (upto 0 g))) false)] 700 [] args m nx pc K
  | false => f args m nx pc K
def nsC (n : Nat) : List SV := catL (fun k => [xv (Nat.add 4000 (Nat.mul 4 k)), xv (Nat.add 4002 (Nat.mul 4 k))]) (upto 0 n)
def codeW : Nat := match encS W3 with
  | some c => c
  | none => 0
def nodeB (T : Str) (b prio : Nat) : Blk := .ce 241 [svx .i64 (lenS T), .x .i64 (lv b), .x .i64 (lv (Nat.add b 4)), .x .i64 (lv (Nat.add b 8)), .s T, svx .i64 (lenS T), .x .i64 (lv b), .x .i64 (lv (Nat.add b 4)), .x .i64 (lv (Nat.add b 8)), .i .u32 (.ofNat prio), .np, .np] true
/-- an editor with a text and selections -/
def plL (told : Nat) (root v : SV) (b : Blk) (more : ML) : ML := (2, .ce 45 [.i .u32 (.ofNat 6), .i .u32 (.ofNat 5), .i .u32 (.ofNat 4)] false) :: (3, .ce 82 [.sl 2 0 3 (.q 1), i64 told, .i .u32 (.ofNat (match told with | 0 => 0 | _ => 6))] true) :: (5, .ce 171 [.p 3 0, root] true) :: (7, .mp [] 0) :: (8, .ce 218 [.mp 7, i64 0] true) ::
  (10, .ce 110 [.p 5 0, .p 8 0, v] true) :: (11, .ce 117 [i64 100, .sl 82 0 1 (.q 3), .ns] true) :: (12, .ce 58 [.p 10 0, .ns, .ns, .p 11 0] true) :: (17, .ce 51 [i64 0, i64 0] false) :: (82, .ce 38 [.s [], .sl 17 0 1 (.q 2), .ns] false) :: (453, b) :: more
def plG (g : Nat) : ML := plL 1 (.p 416 0) (.sl 453 0 g (.q 2)) (.ce 51 (dC g) false) [(416, nodeB W3 (tlB codeW) 6)]
def plE : ML := plL 0 .np (.sl 453 0 1 (.q 2)) (.ce 51 [i64 0, i64 0] false) []
def plV : SV := .tu [.p 12 0, .b true]
def nsL (n : Nat) : ML := match n with
  | 0 => []
  | n => [(0, .cv (nsC n))]
def kPl (n g : Nat) : Known := ⟨[.s W3, .sv 0 (.mk (.ofNat n) [])], nsL n, 1, textQ, plV, appL (plG g) (nsL n), 3000, []⟩
def rPl (n : Nat) : Rules := ⟨[], match n with
  | 0 => [([], lv (eA (dId 0)), lenS W3), ([], lv (eH (dId 0)), lenS W3)]
  | _ => []⟩
def kPlE (n : Nat) : Known := ⟨[.s [], .sv 0 (.mk (.ofNat n) [])], nsL n, 1, [], plV, appL plE (nsL n), 3000, []⟩
def smPn (n g : Nat) (f ft : SumF) (ks : List Nat) : SumT := withF 46 (normD n g f) (withF 236 (tallyD ft) (withF 15 (lowD topW) (withF 77 (sortedKeys ks 3) (fun _ => none))))
def smPe (ks : List Nat) : SumT := withF 15 low0 (withF 77 (sortedKeys ks 3) (fun _ => none))
/-! ### done -/
def opV (k : Nat) (l : Str) : SV := .ag [i64 k, .s [], .s l, i64 0, .b false, .ns, .ns]
def stV (t g : Nat) : SV := .ag [.s W3, .sl t 0 g (.q 2), .ns]
def rSg (g : Nat) : Rules := ⟨[([], segs g, W3)], []⟩
def doneP (g : Nat) : PC := appL (segP g) (appL (lnP g) [.mk 40 [(29, -1)], .mk 80 [(33, -1)]])
def edB : Blk := .ce 58 [.p 2 0, .ns, .ns, .p 3 0] true
/-- a snippet is put in -/
def kDnI (g : Nat) : Known := ⟨[.p 0 0, stV 1 g, opV 7 [.a 8]], [(0, edB), (1, .ce 51 (dC g) false)], 4, doneP g, .tu [.ag [.s N3, .sl 4 0 g (.q 2), .sl 5 0 0 (.q 2)], okV0], [(0, edB), (4, .ce 51 (carC g) false)], 420000, []⟩
def shB (g : Nat) : Blk := .ce 110 [.p 3 0, .p 4 0, .sl 5 0 g (.q 2)] true
def edB2 : Blk := .ce 58 [.p 2 0, .ns, .ns, .p 6 0] true
/-- a text is typed -/
def kDnT (g : Nat) : Known := ⟨[.p 0 0, stV 1 g, opV 2 [.a 7]], [(0, edB2), (1, .ce 51 (dC g) false), (2, shB g), (5, .ce 51 (dC g) false)], 7, doneP g, .tu [.ag [.s N3, .sl 7 0 g (.q 2), .ns], okV0], [(0, edB2), (2, shB g), (5, .ce 51 (dC g) false), (7, .ce 51 (carC g) false)], 420000, []⟩
def kRead0 : Known := ⟨[.s []], [], 1, [], .tu [.ns, okV0], [], 200, []⟩
def rRead0 : Rules := ⟨[([], [], [.a 8])], []⟩
def readD (e : Bool) : SumF := fun args m nx pc K => match e with
  | true => cutI rRead0 kRead0 args m nx pc K
  | false => cutP rN kRead ⟨[(7, [.a 7]), (8, [.a 8])], []⟩ args m nx pc K
def rTy (g : Nat) (e : Bool) : Rules := ⟨([], segs g, W3) :: (match e with
  | true => [([], [], [.a 7])]
  | false => []), []⟩
def smDn (g : Nat) (e : Bool) (f : SumF) : SumT := withF 55 (readD e) (withF 56 (cutI (rSg g) (kIns g e)) (withF 52 (cutI (rTy g e) (kFdo g e)) (withF 81 (spanD g f) (fun _ => none))))
def dnP (g : Nat) (e : Bool) : PC := appL (sP e) (appL (doneP g) (match e with
  | true => []
  | false => [.mk (-1) [(33, 1)]]))
/-! ### set: the text is turned, the rope's pieces -/
def chunks (b k : Nat) : Str := mapL Pc.a (upto b k)
def l64 (i : Nat) : PC := [ge (lenS [.a i]) (.mk 64 []), le' (lenS [.a i]) 64]
def chP (M : Nat) (b k : Nat) (l : Str) : PC := appL (catL l64 (upto b (Nat.pred k))) (appL [(lenS (chunks b k)).sub (lenS l), (lenS l).sub (lenS (chunks b k)), le' (lenS [.a (Nat.add b (Nat.pred k))]) 64, ge (lenS [.a (Nat.add b (Nat.pred k))]) (.mk 1 [])] (match Nat.beq b 45 with
  | true => [le' (lenS [.a 10, .a 12, .a (Nat.add b (Nat.pred k))]) (Nat.sub M (Nat.mul 64 (Nat.pred k)))]
  | false => []))
/-- l is put as so many pieces: k and more -/
def chopD (M b : Nat) (l : Str) (pc : PC) (K : Str → PC → Bool) : Nat → Nat → Bool
  | 0, _ => false
  | f + 1, k => dec2 pc ((Lin.mk (.ofNat (Nat.mul 64 k)) []).sub (lenS l)) fun r pc => match r with
    | true => match Nat.beq k 1 with
      | true => K l pc
      | false => K (chunks b k) (addNew (chP M b k l) pc)
    | false => chopD M b l pc K f (Nat.succ k)
def weldD (M : Nat) (f : SumF) : SumF := fun args m nx pc K => match args with
  | [d, a, .s l, b] => match eqStr l N3 || (eqStr l [.a 10, .a 13, .a 11, .a 12] && proves pc (.mk 0 [(45, -1)])) with
    | true => chopD M 40 l pc (fun l pc => f [d, a, .s l, b] m nx pc K) 5 1
    | false => match eqStr l [.a 13] with
      | true => chopD M 45 l pc (fun l pc => f [d, a, .s l, b] m nx pc K) 5 1
      | false => f args m nx pc K
  | _ => false
def turnD (f : SumF) : SumF := fun args m nx pc K => match args with
  | [.s a, .s b] => match eqStr a W3 && eqStr b N3 with
    | true => K (.ag [xl (lenS [.a 10]), xl (lenS [.a 10, .a 11]), .s [.a 13]]) m nx pc
    | false => f args m nx pc K
  | _ => false
/-- the old selections, moved along: whatever they are -/
def smvP : PC := [.mk 0 [(9002, 1)], .mk 0 [(9002, -1), (9004, 1)], .mk 60 [(9004, -1)], .mk 400 [(21, -1)]]
def oldC (g : Nat) : List SV := catL (fun j => [xv (Nat.add 9200 (Nat.mul 4 j)), xv (Nat.add 9202 (Nat.mul 4 j))]) (upto 0 g)
def smvL (g : Nat) : ML := [(0, .ce 51 (oldC g) false), (1, .ce 132 [xl (lv 9002), xl (lv 9004), .s [.a 5]] true)]
def smvQ (g : Nat) : PC := appL smvP (catL (fun j => [lv (Nat.add 9200 (Nat.mul 4 j)), le' (lv (Nat.add 9200 (Nat.mul 4 j))) 60, lv (Nat.add 9202 (Nat.mul 4 j)), le' (lv (Nat.add 9202 (Nat.mul 4 j))) 60]) (upto 0 g))
def kSm (g : Nat) : Known := ⟨[.sl 0 0 g (.q 2), .sl 1 0 1 (.k 1)], smvL g, 2, smvQ g, .su 3000, smvL g, 3001, []⟩
/-- a place moved along: 9006 -/
def kMvV : Known := ⟨[xl (lv 9000), .b true, .sl 0 0 1 (.k 1)], mvL, 1, [.mk 0 [(9002, -1), (9004, 1)], .mk 1000 [(9000, -1)], .mk 1000 [(9000, 1)], .mk 1000 [(9002, -1)], .mk 1000 [(9002, 1)], .mk 1000 [(9004, -1)], .mk 1000 [(9004, 1)], .mk 1000 [(25, -1)]], xl (lv 9006), mvL, 100, []⟩
def rMvV : Rules := ⟨[], [(mP1, lv 9006, lv 9000), (mP2, lv 9006, mV2), (mP3, lv 9006, mV3)]⟩
def mvvD : SumF := fun args m nx pc K => match args with
  | [.x .i64 (.mk 0 [(i, 1)]), _, _] => match Nat.ble 9200 i && Nat.blt i 9224 && Nat.beq (Nat.mod i 2) 0 with
    | true => match Nat.beq (Nat.mod i 4) 0 with
      | true => cutP rN kMvV ⟨[(6, [.a 5])], [(4500, lv i), (4501, lv 9002), (4502, lv 9004), (4503, lv (eA (Nat.div (Nat.sub i 9200) 4)))]⟩ args m nx pc K
      | false => cutP rN kMvV ⟨[(6, [.a 5])], [(4500, lv i), (4501, lv 9002), (4502, lv 9004), (4503, lv (eH (Nat.div (Nat.sub i 9200) 4)))]⟩ args m nx pc K
    | false => false
  | _ => false
def looseEnd1 (l1 : ML) (hi : Nat) (v : SV) (m : Mem) (nx : Nat) (pc : PC) : Bool := match v with
  | .sl _ 0 n (.q _) => Nat.ble n 1000 && Nat.ble nx hi && allL (fun t b => eqBlk (m.get t) (some b)) l1
  | _ => false
def edOf (e : Nat) (m : Mem) : Option (Lin × Lin) := match m.get e with
  | some (.ce _ [f, t, .s [.a 13]] true) => match linV f, linV t with
    | some f, some t => some (f, t)
    | _, _ => none
  | _ => none
def smoveD (g : Nat) : SumF := fun args m nx pc K => match args with
  | [_, .sl e 0 1 (.k 1)] => match edOf e m with
    | some (f, t) => cutP rN (kSm g) ⟨[(5, [.a 13])], (4501, f) :: (4502, t) :: catL (fun j => [(Nat.add 4600 (Nat.mul 2 j), lv (eA (dId j))), (Nat.add 4601 (Nat.mul 2 j), lv (eH (dId j)))]) (upto 0 g)⟩ args m nx pc K
    | none => false
  | _ => false
/-- the new ones, in order: length 9000 -/
def ncC (g : Nat) : List SV := catL (fun j => [xv (Nat.add 9002 (Nat.mul 2 j)), xv (Nat.add 9002 (Nat.mul 2 j))]) (upto 0 g)
def ncP (g : Nat) : PC := appL (catL (fun j => [lv (Nat.add 9002 (Nat.mul 2 j)), ge (lv 9000) (lv (Nat.add 9002 (Nat.mul 2 j)))]) (upto 0 g)) (mapL (fun j => gt (lv (Nat.add 9004 (Nat.mul 2 j))) (lv (Nat.add 9002 (Nat.mul 2 j)))) (upto 0 (Nat.pred g)))
def kNc (g : Nat) : Known := ⟨[xl (lv 9000), .sl 0 0 g (.q 2)], [(0, .ce 51 (ncC g) false)], 1, ncP g, .tu [.sl 1 0 g (.q 2), okV0], [(0, .ce 51 (ncC g) false), (1, .ce 51 (ncC g) false)], 3000, []⟩
def normC (g : Nat) (f : SumF) : SumF := fun args m nx pc K => match args with
  | [v, .sl t 0 k (.q 2)] => match linV v, m.get t with
    | some e, some (.ce _ (.x _ (.mk 0 [(7100, 1)]) :: _) _) => cutP rN (kNc g) ⟨[], (4500, e) :: mapL (fun j => (Nat.add 4501 j, lv (carJ j))) (upto 0 g)⟩ args m nx pc K
    | _, _ => f args m nx pc K
  | args => f args m nx pc K
/-- some facts alone are looked at -/
def onlyT (p : Nat → Bool) : List (Nat × Int) → Bool
  | [] => true
  | (i, _) :: l => p i && onlyT p l
def onlyL (p : Nat → Bool) : Lin → Bool
  | .mk _ l => onlyT p l
def fltP (p : Lin → Bool) : PC → PC
  | [] => []
  | e :: l => match p e with
    | true => e :: fltP p l
    | false => fltP p l
def narS (p : Nat → Bool) (g : SumF) : SumF := fun args m nx pc K => g args m nx (fltP (onlyL p) pc) fun v m nx pc' => K v m nx (appL pc' (fltP (fun e => !onlyL p e) pc))
def setVar (i : Nat) : Bool := Nat.beq i 41 || Nat.beq i 45 || Nat.beq i 49 || Nat.beq i 53 || (Nat.ble 161 i && Nat.ble i 200 && Nat.beq (Nat.mod i 4) 1) || (Nat.ble 7100 i && Nat.ble i 7112) || (Nat.ble 8001 i && (Nat.beq (Nat.mod i 4) 1 || Nat.beq (Nat.mod i 4) 3)) || (Nat.ble 2768 i && Nat.blt i 2870)
/-! ### All of it -/
def carP (g M : Nat) : PC := appL (catL (fun j => [lv (carJ j), ge (lenS N3) (lv (carJ j))]) (upto 0 g)) (appL (mapL (fun j => gt (lv (carJ (Nat.succ j))) (lv (carJ j))) (upto 0 (Nat.pred g))) [le' (lenS N3) M])
def elP (g : Nat) : PC := catL (fun j => [lv (eA (dId j)), le' (lv (eA (dId j))) 60, lv (eH (dId j)), le' (lv (eH (dId j))) 60]) (upto 0 g)
def tlP (b : Nat) (l : Str) : PC := [le' (lv b) 1000, le' (lv (Nat.add b 4)) 1000, le' (lv (Nat.add b 8)) 1000, ge (lenS l) (lv b)]
def maxM (g : Nat) : Nat := Nat.add 60 (Nat.mul 40 g)
def mainP (g : Nat) : PC := appL textQ (appL (tlP (tlB codeW) W3) (appL (carP g (maxM g)) (appL (elP g) (appL (doneP g) v5P))))
def guardK : Known := ⟨[.s [.a 7]], [], 0, [.mk 40 [(29, -1)]], .s [.a 8], [], 600, []⟩
def guardR : Rules := ⟨[([.mk 0 [(33, -1)]], [.a 8], [])], []⟩
def idS (l : List Nat) : List (Nat × Str) := mapL (fun i => (i, [.a i])) l
def nsV : SV := .sv 0 (lv 5998)
def nsB : Blk := .cq 2999 2000
def kPm (g : Nat) (v : SV) (l : ML) : Known := ⟨[.s W3, v], l, 1, textQ, plV, appL (plG g) l, 3000, []⟩
def doneD (g : Nat) : SumF := fun args m nx pc K => match args with
  | [_, _, .ag (.i _ (.ofNat 7) :: _)] => cutI rN (kDnI g) args m nx pc K
  | [_, _, .ag (.i _ (.ofNat 2) :: _)] => cutI rN (kDnT g) args m nx pc K
  | _ => false
end X
end Go.Proofs.YtdbchpoaoghgpaaGreatDoor

set_option linter.unusedSimpArgs false
set_option linter.unusedVariables false
namespace Go.Proofs.YtdbchpoaoghgpaaGreatDoor
namespace X
open Go.RowKit B

/-! a row: 5000 says how many; what is selected: from 5010 on; carets: from 5030 on -/
def rowB (b : Nat) : Blk := .cx 51 5000 b
def rowV (t : Nat) : SV := .sx t 5000
/-- the editor of a text that is not empty; of the empty one -/
def plX : ML := plL 1 (.p 416 0) (rowV 453) (rowB 5010) [(416, nodeB W3 (tlB codeW) 6)]
def plXe : ML := plL 0 .np (rowV 453) (rowB 5010) []
def kPx (e : Bool) (v : SV) (l : ML) : Known := match e with
  | true => ⟨[.s [], v], l, 1, [], plV, appL plXe l, 3000, []⟩
  | false => ⟨[.s W3, v], l, 1, [], plV, appL plX l, 3000, []⟩
def kGx : Known := ⟨[.s [.a 7]], [], 0, [], .s [.a 8], [], 600, []⟩
def stX (e : Bool) (t : Nat) : SV := .ag [.s (match e with
  | true => []
  | false => W3), rowV t, .ns]
def newX (e : Bool) : Str := match e with
  | true => [.a 13]
  | false => N3
def kIx (e : Bool) : Known := ⟨[.p 0 0, stX e 1, opV 7 [.a 8]], [(0, edB), (1, rowB 5010)], 4, [], .tu [.ag [.s (newX e), rowV 4, .sl 5 0 0 (.q 2)], okV0], [(0, edB), (4, rowB 5030)], 420000, []⟩
def shX : Blk := .ce 110 [.p 3 0, .p 4 0, rowV 5] true
def kTx (e : Bool) : Known := ⟨[.p 0 0, stX e 1, opV 2 [.a 7]], [(0, edB2), (1, rowB 5010), (2, shX), (5, rowB 5010)], 7, [], .tu [.ag [.s (newX e), rowV 7, .ns], okV0], [(0, edB2), (2, shX), (5, rowB 5010), (7, rowB 5030)], 420000, []⟩
def doneX (e : Bool) : SumF := fun args m nx pc K => match args with
  | [_, _, .ag (.i _ (.ofNat 7) :: _)] => cutI rN (kIx e) args m nx pc K
  | [_, _, .ag (.i _ (.ofNat 2) :: _)] => cutI rN (kTx e) args m nx pc K
  | _ => false
/-- a copy -/
def kCl (b : Nat) : Known := ⟨[rowV 0], [(0, rowB b)], 1, [], rowV 1, [(0, rowB b), (1, rowB b)], 100, []⟩
def cloneX (f : SumF) : SumF := fun args m nx pc K => match args with
  | [.sx t 5000] => match m.get t with
    | some (.cx _ _ b) => frn b fun b => cutI rN (kCl b) args m nx pc K
    | _ => false
  | args => f args m nx pc K
def kEq : Known := ⟨[rowV 0, rowV 1], [(0, rowB 5030), (1, rowB 5030)], 2, [], .b true, [(0, rowB 5030), (1, rowB 5030)], 300, []⟩
/-- the text of one piece -/
def kTw : Known := ⟨[.p 5 0], [(5, .ce 171 [.p 3 0, .p 416 0] true), (416, nodeB W3 (tlB codeW) 6)], 417, [], .s W3, [(5, .ce 171 [.p 3 0, .p 416 0] true), (416, nodeB W3 (tlB codeW) 6)], 700, []⟩
def oneN (m : Mem) (t : Nat) : Bool := match m.get t with
  | some (.ce _ [_, _, _, _, .s l, _, _, _, _, _, .np, .np] true) => eqStr l W3
  | _ => false
def textD (f : SumF) : SumF := fun args m nx pc K => match args with
  | [.p r 0] => match m.get r with
    | some (.ce _ [_, .p t 0] true) => match oneN m t with
      | true => cutI rN kTw args m nx pc K
      | false => f args m nx pc K
    | _ => f args m nx pc K
  | args => f args m nx pc K
/-- the new ones, in order -/
def kNx (e : Bool) : Known := ⟨[svx .i64 (lenS (newX e)), rowV 0], [(0, rowB 5030)], 1, [], .tu [rowV 1, okV0], [(0, rowB 5030), (1, rowB 5030)], 3000, []⟩
/-- the old ones, moved along -/
def smX : ML := [(0, rowB 5010), (1, .ce 132 [svx .i64 (lenS [.a 10]), svx .i64 (lenS [.a 10, .a 11]), .s [.a 13]] true)]
def kSx : Known := ⟨[rowV 0, .sl 1 0 1 (.k 1)], smX, 2, [], .su 3000, smX, 3001, []⟩
def smXe : ML := [(0, rowB 5010), (1, .ce 132 [okV0, okV0, .s [.a 13]] true)]
def kSxe : Known := ⟨[rowV 0, .sl 1 0 1 (.k 1)], smXe, 2, [], .su 3000, smXe, 3001, []⟩
def turnX (e : Bool) (f : SumF) : SumF := match e with
  | true => fun args m nx pc K => match args with
    | [.s [], .s b] => match eqStr b [.a 13] with
      | true => K (.ag [okV0, okV0, .s [.a 13]]) m nx pc
      | false => f args m nx pc K
    | _ => f args m nx pc K
  | false => turnD f
def mainX (e : Bool) (M : Nat) : PC := match e with
  | true => appL [le' (lenS [.a 13]) 40] v5P
  | false => appL textQ (appL (tlP (tlB codeW) W3) (le' (lenS N3) M :: v5P))
end X
end Go.Proofs.YtdbchpoaoghgpaaGreatDoor

set_option linter.unusedSimpArgs false
set_option linter.unusedVariables false
namespace Go.Proofs.YtdbchpoaoghgpaaGreatDoor
namespace X
open Go.RowKit B

noncomputable def cTop : Code := bodyOf Tryz.f3.body
def awakeS : SumF := fun args m nx pc K => match args with
  | [] => K (.b true) m nx pc
  | _ => false
def sortS : SumT := withF 77 (sortedKeys [131, 288] 3) smZ
def textE (e : Bool) (f : SumF) : SumF := match e with
  | true => f
  | false => textD f
noncomputable def s0X (e : Bool) : SumT := withF 4 awakeS (withF 236 (tallyD fT) (withF 66 (cloneX (go smZ 66)) (withF 26 (cutI rN kEq) (withF 50 (textE e (go sortS 50)) sortS))))
def kSX (e : Bool) : Known := match e with
  | true => kSxe
  | false => kSx
noncomputable def s1X (e : Bool) (M : Nat) : SumT := withF 115 (cutI rN (kSX e)) (withF 120 (weldD M (go (s0X e) 120)) (withF 62 (turnX e (go (s0X e) 62)) (withF 46 (cutI rN (kNx e)) (s0X e))))
noncomputable def s3X (e : Bool) (M : Nat) (v : SV) (l : ML) : SumT := withF 5 (cutI rN (kPx e v l)) (withF 23 (doneX e) (withF 7 (cutI rN kGx) (s1X e M)))
def textX (e : Bool) : Str := match e with
  | true => []
  | false => W3
def isTr (v : SV) : Bool := match v with
  | .b true => true
  | _ => false
/-- true; the arguments' memory is as it was -/
def endK (l : ML) (v : SV) (m : Mem) : Bool := isTr v && allL (fun t b => eqBlk (m.get t) (some b)) l
noncomputable def mainK (e : Bool) (M : Nat) (v : SV) (l : ML) (ex : PC) : Bool := mkK l .lf fun m0 => callX' Tryz.prog (s3X e M v l) 3 cTop [ownTrig (ccN 60 [.a 7] [] [noB 10])] [.s (textX e), v, .s [.a 7]] m0 1 (appL ex (mainX e M)) fun v m _ _ => endK l v m
/-! the cases: 10 and 12; how long the new text is -/
def exU : PC := [.mk 0 [(41, -1)], .mk 0 [(49, -1)]]
def exV : PC := [.mk 0 [(41, -1)], .mk (-1) [(49, 1)]]
def exE : PC := [.mk 0 [(45, -1)]]
def exF : PC := [.mk (-1) [(45, 1)]]
def exB : PC := [.mk (-1) [(41, 1)], .mk 0 [(49, -1)]]
def exC : PC := [.mk (-1) [(41, 1)], .mk (-1) [(49, 1)]]
def exL (k : Nat) : PC := match k with
  | 1 => [le' (lenS N3) 64]
  | k => [le' (lenS N3) (Nat.mul 64 k), ge (lenS N3) (.mk (.ofNat (Nat.succ (Nat.mul 64 (Nat.pred k)))) [])]
noncomputable def runX (ex : PC) (k : Nat) : Bool := mainK false 300 nsV [(0, nsB)] (appL ex (exL k))
noncomputable def run0 (ex : PC) (k : Nat) : Bool := mainK false 300 (.sv 0 (.mk 0 [])) [] (appL ex (exL k))
end X
end Go.Proofs.YtdbchpoaoghgpaaGreatDoor

set_option linter.unusedSimpArgs false
set_option linter.unusedVariables false
namespace Go.Proofs.YtdbchpoaoghgpaaGreatDoor
namespace X
open Go.RowKit B

noncomputable def dnIK (g : Nat) (e : Bool) : Bool := runK (go (smDn g e fSp) 23) (kDnI g).a0 (kDnI g).l0 (dnP g e) rN (kDnI g)
noncomputable def dnTK (g : Nat) (e : Bool) : Bool := runK (go (smDn g e fSp) 23) (kDnT g).a0 (kDnT g).l0 (dnP g e) rN (kDnT g)
/-- numbers from b on, two by two -/
def rowC (g b : Nat) : List SV := catL (fun j => [xl (lv (Nat.mul 2 (Nat.add b (Nat.mul 2 j)))), xl (lv (Nat.mul 2 (Nat.succ (Nat.add b (Nat.mul 2 j)))))]) (upto 0 g)
def rowE (g b : Nat) : Blk := .ce 51 (rowC g b) false
def rowS (t g : Nat) : SV := .sl t 0 g (.q 2)
def kClG (g b : Nat) : Known := ⟨[rowS 0 g], [(0, rowE g b)], 1, [], rowS 1 g, [(0, rowE g b), (1, rowE g b)], 100, []⟩
def kEqG (g : Nat) : Known := ⟨[rowS 0 g, rowS 1 g], [(0, rowE g 5030), (1, rowE g 5030)], 2, [], .b true, [(0, rowE g 5030), (1, rowE g 5030)], 300, []⟩
noncomputable def clK (g b : Nat) : Bool := runK (go smZ 66) (kClG g b).a0 (kClG g b).l0 [] rN (kClG g b)
noncomputable def eqK (g : Nat) : Bool := runK (go smZ 26) (kEqG g).a0 (kEqG g).l0 [] rN (kEqG g)
/-- carets in order, up to the end of the new text -/
def carQ (e : Bool) (g : Nat) : PC := appL (catL (fun j => [lv (carJ j), ge (lenS (newX e)) (lv (carJ j))]) (upto 0 g)) (mapL (fun j => gt (lv (carJ (Nat.succ j))) (lv (carJ j))) (upto 0 (Nat.pred g)))
def carB (g : Nat) : Blk := .ce 51 (carC g) false
def kNxG (e : Bool) (g : Nat) : Known := ⟨[svx .i64 (lenS (newX e)), rowS 0 g], [(0, carB g)], 1, carQ e g, .tu [rowS 1 g, okV0], [(0, carB g), (1, carB g)], 3000, []⟩
noncomputable def nxK (e : Bool) (g : Nat) : Bool := runK (go smZ 46) (kNxG e g).a0 (kNxG e g).l0 (carQ e g) rN (kNxG e g)
/-- the old ones -/
def mvvG (g : Nat) : SumF := fun args m nx pc K => match args with
  | [.x .i64 (.mk 0 [(i, 1)]), _, _] => match Nat.blt i (Nat.add 9200 (Nat.mul 4 g)) with
    | true => mvvD args m nx pc K
    | false => false
  | _ => false
noncomputable def smMv (g : Nat) : SumT := withF 175 (mvvG g) (smN4 g)
noncomputable def smK (g : Nat) : Bool := mkK (smvL g) .lf fun m0 => go (smMv g) 115 (kSm g).a0 m0 2 (appL (smvQ g) (normP g)) (looseEnd1 (smvL g) 3000)
noncomputable def mvvK : Bool := runK (go smZ 175) kMvV.a0 kMvV.l0 kMvV.pc0 rMvV kMvV
noncomputable def rd0K : Bool := runK (go smZ 55) kRead0.a0 kRead0.l0 [] rN kRead0
end X
end Go.Proofs.YtdbchpoaoghgpaaGreatDoor

set_option linter.unusedSimpArgs false
set_option linter.unusedVariables false
namespace Go.Proofs.YtdbchpoaoghgpaaGreatDoor
namespace X
open Go.RowKit B

/-! ### plain -/
def smPlN (n g : Nat) (f ft : SumF) (ks : List Nat) : SumT := match n with
  | 0 => withF 236 (tallyD ft) (withF 77 (sortedKeys ks 3) (fun _ => none))
  | n => smPn n g f ft ks
/-! ### The empty text -/
def sel0 : Blk := .ce 51 [okV0, okV0] false
def carS : Blk := .ce 51 [xl (lenS [.a 7]), xl (lenS [.a 7])] false
def dneP (e : Bool) : PC := appL (match e with
  | true => [.mk 0 [(29, -1)], .mk 0 [(33, -1)]]
  | false => [.mk (-1) [(29, 1)], .mk (-1) [(33, 1)]]) (appL [.mk 40 [(29, -1)], .mk 80 [(33, -1)]] v5P)
def rEm (e : Bool) : Rules := match e with
  | true => ⟨[([], [.a 7], [])], [([], lenS [.a 7], .mk 0 [])]⟩
  | false => ⟨[], []⟩
def kDnIe (e : Bool) : Known := ⟨[.p 0 0, .ag [.s [], .sl 1 0 1 (.q 2), .ns], opV 7 [.a 8]], [(0, edB), (1, sel0)], 4, dneP e, .tu [.ag [.s [.a 7], .sl 4 0 1 (.q 2), .sl 5 0 0 (.q 2)], okV0], [(0, edB), (4, carS)], 420000, []⟩
def kDnTe (e : Bool) : Known := ⟨[.p 0 0, .ag [.s [], .sl 1 0 1 (.q 2), .ns], opV 2 [.a 7]], [(0, edB2), (1, sel0), (2, shB 1), (5, sel0)], 7, dneP e, .tu [.ag [.s [.a 7], .sl 7 0 1 (.q 2), .ns], okV0], [(0, edB2), (2, shB 1), (5, sel0), (7, carS)], 420000, []⟩
def smDe (e : Bool) (fE ft : SumF) (ks : List Nat) : SumT := withF 55 (readD e) (withF 328 fE (withF 236 (tallyD ft) (withF 77 (sortedKeys ks 3) (fun _ => none))))
/-! ### Too long -/
def argsL : List SV := [.s [.a 10], .sv 0 (lv 5998), .s [.a 7]]
def argsB : List SV := [.s [.a 10], .sv 0 (lv 5998), .s [.a 7, .c 10, .a 9]]
def lgA : PC := [ge (lenS [.a 10]) (.mk 61 [])]
def lgB : PC := [le' (lenS [.a 10]) 60, ge (lv 5998) (.mk 7 [])]
def lgC : PC := [le' (lenS [.a 10]) 60, le' (lv 5998) 6, ge (lenS [.a 7]) (.mk 41 [])]
def lgD : PC := appL [le' (lenS [.a 10]) 60, le' (lv 5998) 6, le' (lenS [.a 7, .c 10, .a 9]) 40] v5P
end X
end Go.Proofs.YtdbchpoaoghgpaaGreatDoor

set_option linter.unusedSimpArgs false
set_option linter.unusedVariables false
namespace Go.Proofs.YtdbchpoaoghgpaaGreatDoor
namespace X
open Go.RowKit B

noncomputable def fNm : SumF := go (withF 236 (tallyD fT) sortS) 46
noncomputable def plK (n g : Nat) : Bool := runK (go (smPlN n g fNm fT [131, 288]) 5) (kPl n g).a0 (kPl n g).l0 (kPl n g).pc0 (rPl n) (kPl n g)
noncomputable def plEK (n : Nat) : Bool := runK (go (smPe [131, 288]) 5) (kPlE n).a0 (kPlE n).l0 (kPlE n).pc0 rN (kPlE n)

noncomputable def fEach : SumF := callX' Tryz.prog sortS 328 (bodyOf Tryz.f328.body) [eachTrig 5 (ccN 60 [.a 7] [] [noB 10])]
noncomputable def dnIeK (e : Bool) : Bool := runK (go (smDe e fEach fT [131, 288]) 23) (kDnIe e).a0 (kDnIe e).l0 (kDnIe e).pc0 (rEm e) (kDnIe e)
noncomputable def dnTeK (e : Bool) : Bool := runK (go (smDe e fEach fT [131, 288]) 23) (kDnTe e).a0 (kDnTe e).l0 (kDnTe e).pc0 (rEm e) (kDnTe e)
noncomputable def twK : Bool := runK (go smZ 50) kTw.a0 kTw.l0 textQ rN kTw
noncomputable def smAw : SumT := withF 4 awakeS smZ
noncomputable def lgK (p : PC) : Bool := go smAw 3 argsL .lf 1 p fun v _ _ _ => isTr v
noncomputable def lbK : Bool := callX' Tryz.prog smAw 3 cTop [ownTrig (ccN 60 [.a 7] [] [noB 10])] argsB .lf 1 lgD fun v _ _ _ => isTr v
noncomputable def awK : Bool := go sortS 4 [] .lf 0 [] fun v _ _ _ => isTr v
end X
end Go.Proofs.YtdbchpoaoghgpaaGreatDoor
