/-
  TopEdits: RwA, RwB.
-/
import Derived.Test.YtebfahobllghnaaGreatDoorPnU
import Derived.Test.YtebfahobllghnaaGreatDoorEdB2
set_option linter.unusedSimpArgs false
set_option linter.unusedVariables false
namespace Go.Proofs.YtebfahobllghnaaGreatDoor
namespace X
open Go.RowKit B
set_option maxRecDepth 1000000
def mw2 : Lin := .mk 0 [(25, 1), (9000, 1), (9002, 1), (9004, -1)]
def mw3 : Lin := .mk 0 [(25, 1), (9002, 1)]
def mwP1 : PC := [gt (lv 9002) (lv 9000)]
def mwP2 : PC := [ge (lv 9004) (lv 9002), gt (lv 9000) (lv 9004)]
def mwP3 : PC := [ge (lv 9000) (lv 9002), ge (lv 9004) (lv 9000)]
def mwL : ML := [(0, .ce 35 [xl (lv 9002), xl (lv 9004), .s [.a 6]] true)]
def kMw : Known := ⟨[xl (lv 9000), .b true, .sl 0 0 1 (.k 1)], mwL, 1, [.mk 0 [(9002, -1), (9004, 1)], .mk 1000 [(9000, -1)], .mk 1000 [(9000, 1)], .mk 1000 [(9002, -1)], .mk 1000 [(9002, 1)], .mk 1000 [(9004, -1)], .mk 1000 [(9004, 1)], .mk 1000 [(25, -1)]], xl (lv 9006), mwL, 100, []⟩
def rMw : Rules := ⟨[], [(mwP1, lv 9006, lv 9000), (mwP2, lv 9006, mw2), (mwP3, lv 9006, mw3)]⟩
noncomputable def knK (sm : SumT) (f : Nat) (rs : Rules) (k : Known) : Bool := mkK k.l0 .lf fun m0 => callBy Tryz.prog sm (ev Tryz.prog sm 1000000) f k.a0 m0 k.nx0 k.pc0 (cutEnd rs k.nx0 k.v1 k.l1 k.nx1 k.pc1)
theorem mw_k : knK smZ 178 rMw kMw = true := by kernel_rfl
def ngP : PC := [.mk 0 [(9002, 1)], .mk 0 [(9002, -1), (9004, 1)], .mk 300 [(9004, -1)], .mk 300 [(21, -1)]]
def ogC (g : Nat) : List SV := catL (fun j => [xv (Nat.add 9200 (Nat.mul 4 j)), xv (Nat.add 9202 (Nat.mul 4 j))]) (upto 0 g)
def movL (g : Nat) : ML := [(0, .ce 57 (ogC g) false), (1, .ce 35 [xl (lv 9002), xl (lv 9004), .s [.a 5]] true)]
def movQ (g : Nat) : PC := appL ngP (catL (fun j => [lv (Nat.add 9200 (Nat.mul 4 j)), le' (lv (Nat.add 9200 (Nat.mul 4 j))) 300, lv (Nat.add 9202 (Nat.mul 4 j)), le' (lv (Nat.add 9202 (Nat.mul 4 j))) 300]) (upto 0 g))
def mwD (g : Nat) : SumF := fun args m nx pc K => match args with
  | [.x .i64 (.mk 0 [(i, 1)]), _, _] => match Nat.ble 9200 i && Nat.blt i (Nat.add 9200 (Nat.mul 4 g)) && Nat.beq (Nat.mod i 2) 0 with
    | true => match Nat.beq (Nat.mod i 4) 0 with
      | true => cutP rN kMw ⟨[(6, [.a 5])], [(4500, lv i), (4501, lv 9002), (4502, lv 9004), (4503, lv (eA (Nat.div (Nat.sub i 9200) 4)))]⟩ args m nx pc K
      | false => cutP rN kMw ⟨[(6, [.a 5])], [(4500, lv i), (4501, lv 9002), (4502, lv 9004), (4503, lv (eH (Nat.div (Nat.sub i 9200) 4)))]⟩ args m nx pc K
    | false => false
  | _ => false
def movR (n g : Nat) : ML := appL (movL n) [(2, .ce 57 (selsC (mapL dId (upto 0 g))) false)]
def movEnd (n : Nat) (v : SV) (m : Mem) (nx : Nat) (pc : PC) : Bool := match v with
  | .sl _ 0 g (.q 2) => Nat.blt 0 g && allP pc (is (gV n) g) && cutEnd (endRs n g) 2 (.sl 2 0 g (.q 2)) (movR n g) 3000 [] v m nx pc
  | _ => false
noncomputable def smMw (g : Nat) : SumT := withF 178 (mwD g) (smN4 g)
noncomputable def movK (g : Nat) : Bool := mkK (movL g) .lf fun m0 => callBy Tryz.prog (smMw g) (ev Tryz.prog (smMw g) 1000000) 118 [.sl 0 0 g (.q 2), .sl 1 0 1 (.k 1)] m0 2 (appL (movQ g) (normP g)) (movEnd g)
theorem mov_1 : movK 1 = true := by kernel_rfl
theorem mov_2 : movK 2 = true := by kernel_rfl
theorem mov_3 : movK 3 = true := by kernel_rfl
theorem mov_4 : movK 4 = true := by kernel_rfl
end X
end Go.Proofs.YtebfahobllghnaaGreatDoor
namespace Go.Proofs.YtebfahobllghnaaGreatDoor
namespace X
open Go.RowKit B
set_option maxRecDepth 1000000
theorem mov_5 : movK 5 = true := by kernel_rfl
theorem mov_6 : movK 6 = true := by kernel_rfl
end X
end Go.Proofs.YtebfahobllghnaaGreatDoor
