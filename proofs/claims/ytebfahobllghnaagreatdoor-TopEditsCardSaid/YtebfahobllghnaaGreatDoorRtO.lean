/-
  TopEdits: RtO.
-/
import Derived.Test.YtebfahobllghnaaGreatDoorEdC8
set_option linter.unusedSimpArgs false
set_option linter.unusedVariables false
namespace Go.Proofs.YtebfahobllghnaaGreatDoor
namespace X
open Go.RowKit B
set_option maxRecDepth 1000000
def i64W (n : Nat) : SV := .i .i64 (.ofNat n)
def diceW : Blk := .ce 87 [.sl 2 0 3 (.q 1), i64W 0, .i .u32 (.ofNat 0)] true
def numW : Blk := .ce 52 [.i .u32 (.ofNat 6), .i .u32 (.ofNat 5), .i .u32 (.ofNat 4)] false
def nwL : ML := [(0, diceW), (1, .ce 9 [.s []] true), (2, numW)]
def kNwT : Known := ⟨[.p 0 0, .sl 1 0 1 (.k 1)], nwL, 3, [], .tu [.p 3 0, i64W 0], [(0, diceW), (2, numW), (3, .ce 169 [.p 0 0, .np] true)], 60, []⟩
def kNw : Known := ⟨kNwT.a0, nwL, 3, [], .tu [.p 3 0, i64W 0], [(3, .ce 169 [.p 61 0, tv 60 []] true), (60, hT 241 [] []), (61, hD)], 62, []⟩
def pW : Str := [.a 10]
def rePl : SumF := fun args m nx pc K => match args with
  | [_, _, _, .s []] => cutT rN kRq ⟨[(50, []), (51, []), (52, []), (53, []), (54, []), (55, [.a 55])], []⟩ args m nx pc K
  | _ => cutT rN kRq ⟨[(50, []), (51, []), (52, []), (53, [.a 10]), (54, [.a 55]), (55, [.a 60])], []⟩ args m nx pc K
def turnPl : SumF := fun args m nx pc K => match args with
  | [.s [], .s b] => match eqStr b pW with
    | true => K (.ag [i64W 0, i64W 0, .s pW]) m nx pc
    | false => false
  | _ => false
def lowPl : SumF := fun args m nx pc K => match args with
  | [.x .i64 (.mk 0 [(i, 1)]), .x .i64 e] => match Nat.ble 4000 i && Nat.ble i 4022 && Nat.beq (Nat.mod i 2) 0 && eqLin e ((Lin.mk 1 []).add (lenS pW)) with
    | true => match Nat.beq (Nat.mod i 4) 0 with
      | true => K (xv (eA (Nat.div (Nat.sub i 4000) 4))) m nx pc
      | false => K (xv (eH (Nat.div (Nat.sub i 4000) 4))) m nx pc
    | false => false
  | _ => false
def elB (n : Nat) : Blk := .ce 57 (selsC (upto 0 n)) false
def kNmE (n : Nat) : Known := ⟨[xl (lenS pW), .sl 0 0 n (.q 2)], [(0, elB n)], 1, [], .tu [rV 1 5000, i64W 0], [(0, elB n), (1, rB 5000 5001)], 700, []⟩
def isEl' (n : Nat) (args : List SV) (m : Mem) : Bool := match args with
  | [_, .sl t 0 k (.q 2)] => Nat.blt 0 n && Nat.beq k n && (match m.get t with
    | some (.ce _ (.x _ (.mk 0 [(2000, 1)]) :: _) _) => true
    | _ => false)
  | _ => false
def normPl (n : Nat) (f : SumF) : SumF := fun args m nx pc K => match isEl' n args m with
  | true => cutW (kNmE n) args m nx pc K
  | false => f args m nx pc K
def nsC' (n : Nat) : List SV := catL (fun k => [xv (Nat.add 4000 (Nat.mul 4 k)), xv (Nat.add 4002 (Nat.mul 4 k))]) (upto 0 n)
def nsL' (n : Nat) : ML := match n with
  | 0 => []
  | n => [(0, .cv (nsC' n))]
def selV' (n : Nat) : SV := match n with
  | 0 => .sl 453 0 1 (.q 2)
  | _ => rV 453 5000
def selB' (n : Nat) : Blk := match n with
  | 0 => .ce 57 [xl (lenS pW), xl (lenS pW)] false
  | _ => rB 5000 5001
def ptN (n : Nat) : ML := [(3, hD), (5, .ce 169 [.p 3 0, tv 416 pW] true), (416, hT 241 pW [.a 60]), (7, .mp [] 0), (8, .ce 218 [.mp 7, i64W 0] true), (10, .ce 108 [.p 5 0, .p 8 0, selV' n] true), (11, .ce 123 [i64W 100, .sl 82 0 1 (.q 3), .ns] true), (12, .ce 66 [.p 10 0, .ns, .ns, .p 11 0] true), (17, .ce 57 [i64W 0, i64W 0] false), (82, .ce 39 [.s [], .sl 17 0 1 (.q 2), .ns] false), (453, selB' n)]
def kPlN (n : Nat) : Known := ⟨[.s pW, .sv 0 (.mk (.ofNat n) [])], nsL' n, 1, [(Lin.mk 60 []).sub (lenS pW)], ptV, appL (ptN n) (nsL' n), 3000, []⟩
def plQ : PC := [(Lin.mk 0 []).sub (lenS pW)]
def rPlN : Rules := ⟨[(plQ, pW, []), (plQ, [.a 60], [])], []⟩
noncomputable def smPlW (n : Nat) : SumT := withF 51 (normPl n (go (withF 78 (sortedKeys [132, 289] 3) smZ) 51)) (withF 7 lowPl (withF 65 turnPl (withF 176 rePl (withF 82 sTx (withF 83 sSz (withF 68 (cutW kNw) (withF 78 (sortedKeys [132, 289] 3) smZ)))))))
theorem nw_k : knK smZ 68 rN kNwT = true := by kernel_rfl
noncomputable def plN (n : Nat) : Bool := knK (smPlW n) 6 rPlN (kPlN n)
theorem plN_0 : plN 0 = true := by kernel_rfl
theorem plN_1 : plN 1 = true := by kernel_rfl
theorem plN_2 : plN 2 = true := by kernel_rfl
theorem plN_3 : plN 3 = true := by kernel_rfl
theorem plN_4 : plN 4 = true := by kernel_rfl
theorem plN_5 : plN 5 = true := by kernel_rfl
theorem plN_6 : plN 6 = true := by kernel_rfl
end X
end Go.Proofs.YtebfahobllghnaaGreatDoor
