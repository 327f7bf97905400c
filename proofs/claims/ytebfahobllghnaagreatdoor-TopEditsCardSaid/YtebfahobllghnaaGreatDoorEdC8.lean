/-
  TopEdits: RtA, RtB, RtC, RtD, RtT.
-/
import Derived.Test.YtebfahobllghnaaGreatDoorEdC7
import Derived.Test.YtebfahobllghnaaGreatDoorEdB6
import Derived.Test.YtebfahobllghnaaGreatDoorEdB7
set_option linter.unusedSimpArgs false
set_option linter.unusedVariables false
namespace Go.Proofs.YtebfahobllghnaaGreatDoor
namespace X
open Go.RowKit B
def sgW (m : Nat) : Str := mapL Pc.a (upto 20 (Nat.succ (Nat.mul 2 m)))
def sgF (j : Nat) : Lin := lenS (mapL Pc.a (upto 20 (Nat.succ (Nat.mul 2 j))))
def sgT (j : Nat) : Lin := lenS (mapL Pc.a (upto 20 (Nat.succ (Nat.succ (Nat.mul 2 j)))))
def wS (m i : Nat) : Str := appL (mapL Pc.a (upto 20 (Nat.succ (Nat.mul 2 i)))) (catL (fun j => [.a (Nat.add 40 j), .a (Nat.add 22 (Nat.mul 2 j))]) (upto i (Nat.sub m i)))
def rn (i : Nat) : Nat := Nat.add 5000 (Nat.mul 20 i)
def rb (i : Nat) : Nat := Nat.add 5001 (Nat.mul 20 i)
def edC (j : Nat) : List SV := [xl (sgF j), xl (sgT j), .s [.a (Nat.add 40 j)]]
def esC (m : Nat) : List SV := catL edC (upto 0 m)
def roC (m k : Nat) : List SV := appL (catL edC (upto k (Nat.sub m k))) (catL edC (upto 0 k))
def esB (l : List SV) : Blk := .ce 35 l false
def tsS (m : Nat) : Str := mapL Pc.a (upto 40 m)
def pcM (m : Nat) : PC := le' (lenS (sgW m)) 60 :: le' (lenS (tsS m)) 80 :: mapL (fun j => ge (lenS [.a (Nat.add 20 (Nat.mul 2 j))]) (.mk 1 [])) (upto 1 (Nat.pred m))
def cutW (k : Known) : SumF := cutG rN k.a0 k.l0 k.nx0 k.pc0 k.v1 k.l1 k.nx1 k.pc1
def rowI (m : Nat) : Nat → Nat → Option Nat
  | 0, _ => none
  | f + 1, n => match Nat.beq n (rn (Nat.sub m f)) with
    | true => some (Nat.sub m f)
    | false => rowI m f n
def rowJ (m n : Nat) : Option Nat := rowI m (Nat.succ m) n
def cloneT (m : Nat) : SumF := fun args mm nx pc K => match args with
  | [.sx _ n] => match rowJ m n with
    | some i => cutW (kClR (rn i) (rb i)) args mm nx pc K
    | none => false
  | _ => false
def equalT (m : Nat) : SumF := fun args mm nx pc K => match args with
  | [.sx _ n, _] => match rowJ m n with
    | some i => cutW (kEqR (rn i) (rb i) (rn i) (rb i)) args mm nx pc K
    | none => false
  | _ => false
def normT (m : Nat) : SumF := fun args mm nx pc K => match args with
  | [_, .sx _ n] => match rowJ m n with
    | some i => cutW (kNmR (xl (lenS (wS m i))) (rn i) (rb i) (rn i) (rb i)) args mm nx pc K
    | none => false
  | _ => false
def kMvT (i : Nat) : Known := kMvR (rn (Nat.succ i)) (rb (Nat.succ i)) (rn i) (rb i) (xl (sgF i)) (xl (sgT i)) (.s [.a (Nat.add 40 i)])
def moveT (m : Nat) : SumF := fun args mm nx pc K => match args with
  | [.sx _ n, _] => match rowJ m n with
    | some (i + 1) => cutW (kMvT i) args mm nx pc K
    | _ => false
  | _ => false
def smFd (m : Nat) : SumT := withF 118 (moveT m) (withF 51 (normT m) (withF 28 (equalT m) (withF 44 (cloneT m) smZ)))
def stV (m i t : Nat) : SV := .ag [.s (wS m i), rV t (rn i), .ns]
def fdR (m i t : Nat) : SV := .tu [stV m i t, okV0]
def roV (m : Nat) : SV := match m with
  | 0 => .sl 1 0 0 (.k 0)
  | m => .sl 1 0 m (.q 3)
def roB (m k : Nat) : Blk := match m with
  | 0 => .ce 35 [] true
  | m => esB (roC m k)
def kFD (m k : Nat) : Known := ⟨[stV m m 0, roV m], [(0, rB (rn m) (rb m)), (1, roB m k)], 2, pcM m, fdR m 0 3, [(0, rB (rn m) (rb m)), (1, roB m k), (3, rB (rn 0) (rb 0))], 60000, []⟩
def kFD1 (m i : Nat) : Known := ⟨[stV m (Nat.succ i) 0, .sl 1 (Nat.mul 3 i) 1 (.q 3)], [(0, rB (rn (Nat.succ i)) (rb (Nat.succ i))), (1, esB (esC m))], 2, pcM m, fdR m i 3, [(0, rB (rn (Nat.succ i)) (rb (Nat.succ i))), (1, esB (esC m)), (3, rB (rn i) (rb i))], 60000, []⟩
noncomputable def fdK (m k : Nat) : Bool := knK (smFd m) 55 rN (kFD m k)
noncomputable def fd1K (m i : Nat) : Bool := knK (smFd m) 55 rN (kFD1 m i)
end X
end Go.Proofs.YtebfahobllghnaaGreatDoor
namespace Go.Proofs.YtebfahobllghnaaGreatDoor
namespace X
open Go.RowKit B
def edtB : Blk := .ce 66 [.p 2 0, .ns, .ns, .p 3 0] true
def shtB (n : Nat) (t : Nat) : Blk := .ce 108 [.p 5 0, .p 8 0, rV t n] true
def rpB (t : Nat) (W : Str) : Blk := .ce 169 [.p 6 0, tv t W] true
def mkB : Blk := .ce 218 [.mp 7, .i .i64 (.ofNat 0)] true
def setL (W : Str) (q n b n' b' : Nat) : ML := [(0, edtB), (1, rB n' b'), (2, shtB n 9), (4, hT 241 W [.a q]), (5, rpB 4 W), (6, hD), (7, .mp [] 0), (8, mkB), (9, rB n b)]
def setL' (N : Str) (q' n' b' : Nat) : ML := [(0, edtB), (1, rB n' b'), (2, shtB n' 11), (5, rpB 10 N), (6, hD), (7, .mp [] 0), (8, mkB), (10, hT 241 N [.a q']), (11, rB n' b')]
def kSetM (W N : Str) (q q' n b n' b' : Nat) : Known := ⟨[.p 0 0, .ag [.s N, rV 1 n', .ns]], setL W q n b n' b', 10, [], .tu [], setL' N q' n' b', 20000, []⟩
def sW : Str := [.a 10, .a 11, .a 12]
def sN : Str := [.a 10, .a 13, .a 12]
def sQv : Nat := Nat.add (Nat.mul 8 (Nat.add 11 (Nat.mul 16 (Nat.add 256 13)))) 7
def kSetC : Known := ⟨[.p 0 0, .ag [.s sN, rV 1 5040, .ns]], setL sW 54 5000 5001 5040 5041, 10, [(Lin.mk 300 []).sub (lenS sW), (Lin.mk 300 []).sub (lenS sN), .mk 0 [(sQv, -1)]], .tu [], setL' sN 56 5040 5041, 20000, []⟩
def sI : Str := [.a 10]
def kSetI : Known := ⟨[.p 0 0, .ag [.s sI, rV 1 5040, .ns]], setL sI 54 5000 5001 5040 5041, 10, [(Lin.mk 300 []).sub (lenS sI)], .tu [], setL' sI 54 5040 5041, 20000, []⟩
def smSi : SumT := withF 82 sTx (withF 83 sSz (withF 51 (cutW (kNmR (xl (lenS sI)) 5040 5041 5040 5041)) smZ))
def turnS : SumF := fun args m nx pc K => match args with
  | [.s a, .s b] => match eqStr a sW && eqStr b sN with
    | true => K (.ag [xl (lenS [.a 10]), xl (lenS [.a 10, .a 11]), .s [.a 13]]) m nx pc
    | false => false
  | _ => false
def replS : SumF := fun args m nx pc K => match args with
  | [_, _, _, .s []] => cutT rN kRq ⟨[(50, [.a 10]), (51, [.a 11]), (52, [.a 12]), (53, []), (54, [.a 54]), (55, [.a 55])], []⟩ args m nx pc K
  | _ => cutT rN kRq ⟨[(50, [.a 10]), (51, []), (52, [.a 12]), (53, [.a 13]), (54, [.a 55]), (55, [.a 56])], []⟩ args m nx pc K
def smSe : SumT := withF 82 sTx (withF 83 sSz (withF 65 turnS (withF 176 replS (withF 51 (cutW (kNmR (xl (lenS sN)) 5040 5041 5040 5041)) (withF 118 (cutW (kMvR 5000 5001 5020 5021 (xl (lenS [.a 10])) (xl (lenS [.a 10, .a 11])) (.s [.a 13]))) (withF 78 (sortedKeys [132, 289] 3) smZ))))))
end X
end Go.Proofs.YtebfahobllghnaaGreatDoor
namespace Go.Proofs.YtebfahobllghnaaGreatDoor
namespace X
open Go.RowKit B
def nsW : SV := .sv 0 (lv 5998)
def gpW : SV := .sv 1 (lv 5996)
def txW : SV := .sv 2 (lv 20000)
def byW : SV := .x .i64 (lv 5980)
def nsK : Blk := .cq 2999 2000
def gpK : Blk := .cq 2998 2100
def txK : Blk := .cq 10000 10100
def ptL (W : Str) (q n b : Nat) : ML := [(3, hD), (5, .ce 169 [.p 3 0, tv 416 W] true), (416, hT 241 W [.a q]), (7, .mp [] 0), (8, .ce 218 [.mp 7, .i .i64 (.ofNat 0)] true), (10, .ce 108 [.p 5 0, .p 8 0, rV 453 n] true), (11, .ce 123 [.i .i64 (.ofNat 100), .sl 82 0 1 (.q 3), .ns] true), (12, .ce 66 [.p 10 0, .ns, .ns, .p 11 0] true), (17, .ce 57 [.i .i64 (.ofNat 0), .i .i64 (.ofNat 0)] false), (82, .ce 39 [.s [], .sl 17 0 1 (.q 2), .ns] false), (453, rB n b)]
def ptV : SV := .tu [.p 12 0, .b true]
def kPlM (m : Nat) (v : SV) (l : ML) : Known := ⟨[.s (sgW m), v], l, 1, [], ptV, appL (ptL (sgW m) 60 (rn m) (rb m)) l, 3000, []⟩
structure StE where
  q : Nat
  i : Nat
  j : Nat
  q' : Nat
def setE (m : Nat) : List StE := ⟨60, m, 0, 61⟩ :: ⟨61, 0, m, 62⟩ :: ⟨60, m, Nat.pred m, 70⟩ :: mapL (fun d => ⟨Nat.add 69 d, Nat.sub m d, Nat.pred (Nat.sub m d), Nat.add 70 d⟩) (upto 1 (Nat.pred m))
def kSe (m : Nat) (e : StE) : Known := kSetM (wS m e.i) (wS m e.j) e.q e.q' (rn e.i) (rb e.i) (rn e.j) (rb e.j)
def fndE (q n : Nat) : List StE → Option StE
  | [] => none
  | e :: l => match Nat.beq e.q q && Nat.beq (rn e.j) n with
    | true => some e
    | false => fndE q n l
def pcQ (m : Mem) (t : Nat) : Option Nat := match m.get t with
  | some (.ce _ [.p s 0, _, _, _] _) => match m.get s with
    | some (.ce _ [.p r 0, _, _] _) => match m.get r with
      | some (.ce _ [_, .tp u _] _) => match m.get u with
        | some (.hb _ _ [.a q]) => some q
        | _ => none
      | _ => none
    | _ => none
  | _ => none
def setT (M : Nat) : SumF := fun args m nx pc K => match args with
  | [.p t 0, .ag [_, .sx _ n, _]] => match pcQ m t with
    | some q => match fndE q n (setE M) with
      | some e => cutW (kSe M e) args m nx pc K
      | none => false
    | none => false
  | _ => false
def fdT (m k : Nat) : SumF := fun args mm nx pc K => match args with
  | [_, .sl _ o n _] => match Nat.beq n m && Nat.beq o 0 with
    | true => cutW (kFD m k) args mm nx pc K
    | false => match Nat.beq n 1 && Nat.blt (Nat.div o 3) m with
      | true => cutW (kFD1 m (Nat.div o 3)) args mm nx pc K
      | false => false
  | _ => false
noncomputable def longT : SumF := fun args m nx pc K => match args with
  | [.i .i64 (.ofNat 80), .sv 2 (.mk 0 [])] => go smZ 4 args m nx pc K
  | [.i .i64 (.ofNat 80), .sv 2 (.mk 0 [(20000, 1)])] => match m.get 2 with
    | some (.cq 10000 10100) => K (.b false) m nx pc
    | _ => false
  | _ => false
def byT (m k : Nat) : SumF := fun args mm nx pc K => match args with
  | [.x .i64 (.mk 0 [(5980, 1)]), .i .i64 (.ofNat j)] => match Nat.beq j (Nat.succ m) with
    | true => K (.i .i64 (.ofNat k)) mm nx pc
    | false => false
  | _ => false
def awT : SumF := fun args m nx pc K => match args with
  | [] => K (.b true) m nx pc
  | _ => false
def esV (t m : Nat) : SV := match m with
  | 0 => .ns
  | m => .sl t 0 m (.q 3)
def esL (t m : Nat) : ML := match m with
  | 0 => []
  | m => [(t, esB (esC m))]
def loE (c : Nat) : Nat := Nat.add 102 (Nat.mul 20 c)
def tgE (c : Nat) : Nat := Nat.add 97 (Nat.mul 20 c)
def poE (c : Nat) : Lin := match c with
  | 0 => .mk 0 []
  | c + 1 => sgT c
def slE (gv tv : SV) (i c : Nat) : SL := [(0, .s [.a 39]), (2, gv), (3, tv), (4, byW), (10, .b false), (11, .p 100 0), (13, .p 101 0), (15, esV (tgE c) c), (16, svx .i64 (poE c)), (17, .i .i64 (.ofNat i))]
def outE (c : Nat) : SL := [(4, byW), (10, .b false), (11, .p 100 0), (13, .p 101 0), (15, esV (tgE c) c)]
def kEsL (m : Nat) (gv tv : SV) (l : ML) : KLoop := ⟨slE gv tv 0 0, l, 102, [], outE m, appL l (esL (tgE m) m), 3000, [], some 0⟩
def rTx (m : Nat) : Rules := ⟨[([], [.a 39], sgW m)], []⟩
def esTr (m : Nat) (gv tv : SV) (l : ML) : TrigK := fun s mm nx pc => match s.get 17 with
  | some (.i _ (.ofNat 0)) => some (rTx m, kEsL m gv tv l)
  | _ => none
noncomputable def smT (m k : Nat) (v : SV) (l : ML) : SumT := withF 5 awT (withF 4 longT (withF 7 (byT m k) (withF 6 (cutW (kPlM m v l)) (withF 27 (setT m) (withF 55 (fdT m k) (withF 82 sTx (withF 83 sSz (withF 44 (cloneT m) (withF 28 (equalT m) (withF 10 (equalT m) smZ))))))))))
noncomputable def cTop : Code := bodyOf Tryz.f3.body
def isTr (v : SV) : Bool := match v with
  | .b true => true
  | _ => false
def endW (l : ML) (v : SV) (m : Mem) : Bool := isTr v && allL (fun t b => eqBlk (m.get t) (some b)) l
def nsX (e : Bool) : SV := match e with
  | true => .sv 0 (.mk 0 [])
  | false => nsW
def nsY (e : Bool) : ML := match e with
  | true => []
  | false => [(0, nsK)]
def gtX (e : Nat) : SV × SV × ML := match e with
  | 0 => (gpW, txW, [(1, gpK), (2, txK)])
  | 1 => (.sv 1 (.mk 0 []), txW, [(2, txK)])
  | 2 => (gpW, .sv 2 (.mk 0 []), [(1, gpK)])
  | _ => (.sv 1 (.mk 0 []), .sv 2 (.mk 0 []), [])
def pcT (m : Nat) : PC := appL [.mk 6 [(5998, -1)], .mk 8 [(5996, -1)]] (pcM m)
noncomputable def mainT (m k : Nat) (e : Bool) (g : Nat) : Bool := mkK (appL (nsY e) (gtX g).2.2) .lf fun m0 => callK Tryz.prog (smT m k (nsX e) (nsY e)) 1000000 50 3 (mkXK cTop [esTr m (gtX g).1 (gtX g).2.1 (gtX g).2.2]).1 [.s (sgW m), nsX e, (gtX g).1, (gtX g).2.1, byW] m0 3 (pcT m) fun v m _ _ => endW (appL (nsY e) (gtX g).2.2) v m
end X
end Go.Proofs.YtebfahobllghnaaGreatDoor
namespace Go.Proofs.YtebfahobllghnaaGreatDoor
namespace X
open Go.RowKit B
noncomputable def cEs : Code := match lpsK cTop with
  | b :: _ => b
  | [] => .skip
def l1E (i : Nat) : Lin := lv (Nat.add 4400 (Nat.mul 2 i))
def l2E (i : Nat) : Lin := lv (Nat.add 4440 (Nat.mul 2 i))
def lowE : SumF := fun args m nx pc K => match args with
  | [.x .i64 (.mk 0 [(v, 1)]), .i .i64 (.ofNat n)] => match Nat.ble 4200 v && Nat.blt v 4232 && Nat.beq (Nat.mod v 2) 0 with
    | true => match Nat.beq (Nat.mod v 4) 0 && Nat.beq n 6 with
      | true => K (xl (l1E (Nat.div (Nat.sub v 4200) 4))) m nx pc
      | false => match Nat.beq (Nat.mod v 4) 2 && Nat.beq n 5 with
        | true => K (xl (l2E (Nat.div (Nat.sub v 4200) 4))) m nx pc
        | false => false
    | false => false
  | _ => false
def smEs : SumT := withF 7 lowE smZ
def nmE (v i : Nat) : Lin := (lv v).sub (.mk (.ofNat i) [])
def frH (i c : Nat) : Lin := (poE c).add (l1E i)
def tgE' (i c : Nat) : Lin := (frH i c).add (l2E i)
def inG (i c : Nat) : PC := [nmE 5996 (Nat.succ i), nmE 20000 (Nat.succ i), l1E i, le' (l1E i) 5, l2E i, le' (l2E i) 4, le' (poE c) 60]
def skE (i : Nat) : PC := [(Lin.mk 0 []).sub (l1E i)]
def giE (i : Nat) : PC := match i with
  | 0 => []
  | i => [(l1E i).sub (.mk 1 [])]
def eqW (a b : Lin) : PC := [a.sub b, b.sub a]
def taE (i c : Nat) : PC := (lv 157).sub (tgE' i c) :: appL (eqW (sgF c) (frH i c)) (appL (eqW (sgT c) (tgE' i c)) (giE i))
def brE (i c : Nat) : PC := ((tgE' i c).sub (lv 157)).add (.mk (-1) []) :: giE i
def rsE (i c : Nat) : Rules := ⟨[([], [.a (Nat.add 40 c)], [.a (Nat.add 10100 i)]), ([], [.a (Nat.add 10100 i)], [.a (Nat.add 40 c)])], []⟩
def mlE (c : Nat) : ML := appL [(1, gpK), (2, txK)] (esL (tgE c) c)
def sgE (i c : Nat) : SL := slE gpW txW i c
noncomputable def skK (i c : Nat) : Bool := evTo smEs cEs (sgE i c) (mlE c) (loE c) 3000 (appL (skE i) (inG i c)) .normal rN ⟨sgE (Nat.succ i) c, mlE c, [], loE c⟩
noncomputable def taK (i c : Nat) : Bool := evTo smEs cEs (sgE i c) (mlE c) (loE c) 3000 (appL (taE i c) (inG i c)) .normal (rsE i c) ⟨sgE (Nat.succ i) (Nat.succ c), mlE (Nat.succ c), [], loE (Nat.succ c)⟩
noncomputable def brK (i c : Nat) : Bool := evTo smEs cEs (sgE i c) (mlE c) (loE c) 3000 (appL (brE i c) (inG i c)) (.exit 0) rN ⟨outE c, mlE c, [], loE c⟩
noncomputable def egK (i c : Nat) : Bool := evTo smEs cEs (sgE i c) (mlE c) (loE c) 3000 [(Lin.mk (.ofNat i) []).sub (lv 5996)] (.exit 0) rN ⟨outE c, mlE c, [], loE c⟩
noncomputable def etK (i c : Nat) : Bool := evTo smEs cEs (sgE i c) (mlE c) (loE c) 3000 [nmE 5996 (Nat.succ i), (Lin.mk (.ofNat i) []).sub (lv 20000)] (.exit 0) rN ⟨outE c, mlE c, [], loE c⟩
noncomputable def e0K (g : Nat) : Bool := evTo smEs cEs (slE (gtX g).1 (gtX g).2.1 0 0) (gtX g).2.2 102 3000 (match g with
  | 2 => [nmE 5996 1]
  | _ => []) (.exit 0) rN ⟨outE 0, (gtX g).2.2, [], 102⟩
noncomputable def rdK (i c : Nat) : Bool := (match i with
  | 0 => true
  | i => skK i c) && taK i c && brK i c && egK i c && etK i c
noncomputable def rdsK (i : Nat) : Nat → Nat → Bool
  | _, 0 => true
  | c, n + 1 => rdK i c && rdsK i (Nat.succ c) n
end X
end Go.Proofs.YtebfahobllghnaaGreatDoor
namespace Go.Proofs.YtebfahobllghnaaGreatDoor
namespace X
open Go.RowKit B
set_option maxRecDepth 1000000
def edsL (L : Int) (g : Nat → Int × Int) : Nat → Nat → Int → List (Nat × Int × Int)
  | 0, _, _ => []
  | k + 1, i, p => match decide (i ≠ 0 ∧ (g i).1 ≤ 0) with
    | true => edsL L g k (i + 1) p
    | false => match decide (L < p + (g i).1 + (g i).2) with
      | true => []
      | false => (i, p + (g i).1, p + (g i).1 + (g i).2) :: edsL L g k (i + 1) (p + (g i).1 + (g i).2)
def EdF (ρ : Rho) : Nat → List (Nat × Int × Int) → Prop
  | _, [] => True
  | c, (i, f, t) :: l => (sgF c).den ρ = f ∧ (sgT c).den ρ = t ∧ ρ.s (40 + c) = ρ.s (10100 + i) ∧ EdF ρ (c + 1) l
structure EdR (ρ : Rho) (L : Int) (g : Nat → Int × Int) (G T : Nat) : Prop where
  g8 : G ≤ 8
  n : ρ.v 2998 = G
  k : ρ.v 10000 = T
  l : ((ρ.s 39).length : Int) = L
  l6 : L ≤ 60
  low1 : ∀ i, i < 8 → ρ.v (2200 + i) = lowF (ρ.v (2100 + 2 * i)) 6
  low2 : ∀ i, i < 8 → ρ.v (2220 + i) = lowF (ρ.v (2101 + 2 * i)) 5
  g1 : ∀ i, i < 8 → (g i).1 = ρ.v (2200 + i)
  g2 : ∀ i, i < 8 → (g i).2 = ρ.v (2220 + i)
def d0E : Nat × Int × Int := (0, 0, 0)
def ChE (L : Int) : Nat → Int → List (Nat × Int × Int) → Prop
  | _, _, [] => True
  | i, p, (j, f, t) :: l => i ≤ j ∧ p ≤ f ∧ (j ≠ 0 → p < f) ∧ f ≤ t ∧ t ≤ L ∧ ChE L (j + 1) t l
theorem ChE.mono {L p : Int} {i j : Nat} (h : i ≤ j) : ∀ {l : List (Nat × Int × Int)}, ChE L j p l → ChE L i p l
  | [], _ => trivial
  | (_, _, _) :: _, ⟨h1, h2⟩ => ⟨Nat.le_trans h h1, h2⟩
theorem edsL_ch {L : Int} {g : Nat → Int × Int} (hg : ∀ i, 0 ≤ (g i).1 ∧ 0 ≤ (g i).2) : ∀ (k i : Nat) (p : Int), ChE L i p (edsL L g k i p)
  | 0, _, _ => trivial
  | k + 1, i, p => by
    unfold edsL
    split
    · exact (edsL_ch hg k (i + 1) p).mono (Nat.le_succ i)
    · rename_i h1
      have h1 := of_decide_eq_false h1
      split
      · trivial
      · rename_i h2
        have h2 := of_decide_eq_false h2
        have := hg i
        exact ⟨Nat.le_refl i, by omega, fun h => by omega, by omega, by omega, edsL_ch hg k (i + 1) _⟩
theorem edsL_len {L : Int} {g : Nat → Int × Int} : ∀ (k i : Nat) (p : Int), (edsL L g k i p).length ≤ k
  | 0, _, _ => Nat.le_refl 0
  | k + 1, i, p => by
    unfold edsL
    split
    · exact Nat.le_trans (edsL_len k (i + 1) p) (Nat.le_succ k)
    · split
      · exact Nat.zero_le _
      · exact Nat.succ_le_succ (edsL_len k (i + 1) _)
def sumE (tl : Nat → Nat) : List (Nat × Int × Int) → Nat
  | [] => 0
  | e :: l => tl e.1 + sumE tl l
def sumN (tl : Nat → Nat) : Nat → Nat → Nat
  | _, 0 => 0
  | i, k + 1 => tl i + sumN tl (i + 1) k
theorem edsL_sum {L : Int} {g : Nat → Int × Int} {tl : Nat → Nat} : ∀ (k i : Nat) (p : Int), sumE tl (edsL L g k i p) ≤ sumN tl i k
  | 0, _, _ => Nat.le_refl 0
  | k + 1, i, p => by
    unfold edsL
    have e : sumN tl i (k + 1) = tl i + sumN tl (i + 1) k := rfl
    split
    · have := edsL_sum (L := L) (g := g) (tl := tl) k (i + 1) p
      omega
    · split
      · exact Nat.zero_le _
      · have := edsL_sum (L := L) (g := g) (tl := tl) k (i + 1) (p + (g i).1 + (g i).2)
        show tl i + sumE tl _ ≤ _
        omega
def pvE (p : Int) (l : List (Nat × Int × Int)) : Nat → Int
  | 0 => p
  | c + 1 => (l.getD c d0E).2.2
theorem ch_get {L : Int} : ∀ {l : List (Nat × Int × Int)} {i : Nat} {p : Int}, ChE L i p l → ∀ c, c < l.length → pvE p l c ≤ (l.getD c d0E).2.1 ∧ (l.getD c d0E).2.1 ≤ (l.getD c d0E).2.2 ∧ (l.getD c d0E).2.2 ≤ L ∧ i + c ≤ (l.getD c d0E).1 ∧ ((l.getD c d0E).1 ≠ 0 → pvE p l c < (l.getD c d0E).2.1)
  | [], _, _, _, c, hc => by simp at hc
  | (j, f, t) :: l, i, p, ⟨h1, h2, h3, h4, h5, h6⟩, c, hc => by
    cases c with
    | zero => exact ⟨h2, h4, h5, h1, h3⟩
    | succ c =>
      have ih := ch_get h6 c (by simpa using hc)
      have e : pvE p ((j, f, t) :: l) (c + 1) = pvE t l c := by cases c <;> rfl
      rw [e]
      have e2 : ((j, f, t) :: l).getD (c + 1) d0E = l.getD c d0E := rfl
      rw [e2]
      exact ⟨ih.1, ih.2.1, ih.2.2.1, by have := ih.2.2.2.1; omega, ih.2.2.2.2⟩
def cpE (L : Nat) (l : List (Nat × Int × Int)) (k : Nat) : Nat := if k = 0 then 0 else if 2 * l.length < k then L else if k % 2 = 1 then (l.getD (k / 2) d0E).2.1.toNat else (l.getD (k / 2 - 1) d0E).2.2.toNat
theorem cp_f {L : Nat} {l : List (Nat × Int × Int)} {c : Nat} (hc : c < l.length) : cpE L l (2 * c + 1) = (l.getD c d0E).2.1.toNat := by
  unfold cpE
  rw [if_neg (by omega), if_neg (by omega), if_pos (by omega), show (2 * c + 1) / 2 = c by omega]
theorem cp_t {L : Nat} {l : List (Nat × Int × Int)} {c : Nat} (hc : c < l.length) : cpE L l (2 * c + 2) = (l.getD c d0E).2.2.toNat := by
  unfold cpE
  rw [if_neg (by omega), if_neg (by omega), if_neg (by omega), show (2 * c + 2) / 2 - 1 = c by omega]
theorem cp_z {L : Nat} {l : List (Nat × Int × Int)} {k : Nat} (hk : 2 * l.length < k) : cpE L l k = L := by
  unfold cpE
  rw [if_neg (by omega), if_pos hk]
theorem cp_pr {L : Nat} {l : List (Nat × Int × Int)} {c : Nat} (hc : c ≤ l.length) : cpE L l (2 * c) = (pvE 0 l c).toNat := by
  cases c with
  | zero => rfl
  | succ c => exact cp_t hc
theorem cp_up {L : Nat} {l : List (Nat × Int × Int)} (h : ChE L 0 0 l) (k : Nat) : cpE L l k ≤ cpE L l (k + 1) ∧ cpE L l (k + 1) ≤ L := by
  rcases Nat.lt_or_ge k (2 * l.length) with hk | hk
  · rcases (show (∃ c, k = 2 * c ∧ c < l.length) ∨ (∃ c, k = 2 * c + 1 ∧ c < l.length) by
      rcases (show k % 2 = 0 ∨ k % 2 = 1 by omega) with q | q
      · exact .inl ⟨k / 2, by omega, by omega⟩
      · exact .inr ⟨k / 2, by omega, by omega⟩) with ⟨c, rfl, hc⟩ | ⟨c, rfl, hc⟩
    · have := ch_get h c hc
      rw [cp_f hc, cp_pr (Nat.le_of_lt hc)]
      omega
    · have := ch_get h c hc
      rw [cp_f hc, cp_t hc]
      omega
  · rw [cp_z (k := k + 1) (by omega)]
    refine ⟨?_, Nat.le_refl _⟩
    rcases Nat.eq_or_lt_of_le hk with e | e
    · rw [← e, cp_pr (Nat.le_refl _)]
      cases hl : l.length with
      | zero => exact Nat.zero_le _
      | succ c =>
        have := ch_get h c (by omega)
        show ((l.getD c d0E).2.2).toNat ≤ L
        omega
    · rw [cp_z e]; exact Nat.le_refl _
def sgE' (W : List UInt8) (l : List (Nat × Int × Int)) (k : Nat) : List UInt8 := (W.drop (cpE W.length l k)).take (cpE W.length l (k + 1) - cpE W.length l k)
section
variable {ρ : Rho}
theorem upto_snoc : ∀ (a n : Nat), upto a (n + 1) = upto a n ++ [a + n]
  | a, 0 => rfl
  | a, n + 1 => by
    have ih := upto_snoc (a + 1) n
    show a :: upto (a + 1) (n + 1) = a :: (upto (a + 1) n ++ [a + (n + 1)])
    rw [ih, show a + 1 + n = a + (n + 1) by omega]
theorem mapL_app {α β : Type} (f : α → β) : ∀ (l m : List α), mapL f (l ++ m) = mapL f l ++ mapL f m
  | [], _ => rfl
  | x :: l, m => congrArg (f x :: ·) (mapL_app f l m)
theorem denS_up (a n : Nat) : denS ρ (mapL Pc.a (upto a (n + 1))) = denS ρ (mapL Pc.a (upto a n)) ++ ρ.s (a + n) := by
  rw [upto_snoc, mapL_app, denS_app]
  exact congrArg _ (denA _)
theorem seg_take {W : List UInt8} {l : List (Nat × Int × Int)} (h : ChE W.length 0 0 l) {N : Nat} (hs : ∀ k, k < N → ρ.s (20 + k) = sgE' W l k) : ∀ k, k ≤ N → denS ρ (mapL Pc.a (upto 20 k)) = W.take (cpE W.length l k)
  | 0, _ => by show [] = W.take 0; rw [List.take_zero]
  | k + 1, hk => by
    rw [denS_up, seg_take h hs k (by omega), hs k (by omega)]
    have := cp_up h k
    unfold sgE'
    rw [← List.take_add, show cpE W.length l k + (cpE W.length l (k + 1) - cpE W.length l k) = cpE W.length l (k + 1) by omega]
theorem seg_len {W : List UInt8} {l : List (Nat × Int × Int)} (h : ChE W.length 0 0 l) (k : Nat) : (sgE' W l k).length = cpE W.length l (k + 1) - cpE W.length l k := by
  have := cp_up h k
  unfold sgE'
  rw [List.length_take, List.length_drop]
  omega
theorem mw_in {L f t n : Int} {y : Se} (h : InE L y) (hf : 0 ≤ f) (hft : f ≤ t) (ht : t ≤ L) (hn : 0 ≤ n) : InE (L - (t - f) + n) (mwS f t n y) := by
  obtain ⟨a1, a2, a3, a4⟩ := in_bnd h
  have key : ∀ x : Int, 0 ≤ x → x ≤ L → 0 ≤ mwF x f t n ∧ mwF x f t n ≤ L - (t - f) + n := fun x h1 h2 => by
    unfold mwF
    split
    · omega
    · split <;> omega
  have k1 := key y.1 a1 a2
  have k2 := key y.2 a3 a4
  refine ⟨?_, ?_⟩
  · show 0 ≤ min (mwF y.1 f t n) (mwF y.2 f t n); omega
  · show max (mwF y.1 f t n) (mwF y.2 f t n) ≤ L - (t - f) + n; omega
end
end X
end Go.Proofs.YtebfahobllghnaaGreatDoor
