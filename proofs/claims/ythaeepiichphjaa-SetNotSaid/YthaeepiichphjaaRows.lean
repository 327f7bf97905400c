/-
  No cell of these rows narrows 'for every input' (looked for: loops, veiled, ifaces, maps, wideKeys, modest, calm, conditions, laid).
  DERIVED. THE GIVEN ROWS OF THIS SEAT. 6 by the template 'for every input the law returns true; each argument reads behind the call as it read before'; 0 by the template 'total and deterministic' (their statements: YthaeepiichphjaaTotals.lean).
  GIVEN WITH THE SEED: the statements are not yours to turn. If you find one false, say at which input.
  Laid BY PROGRAM, IN A SANDBOX (cutbox-rows.mjs): the forced cells as the released guide's own fill.sh prints them over the translation 3096be102e16a289… (all of the seat's roots in one cut). By AI agents, Wed Nov 11 2026. No macro, syntax, notation, axiom, sorry.
-/
import Derived.Test.YthaeepiichphjaaChecked
import GoSem.Claim
import GoSem.ClaimJoined
import GoSem.ClaimMapViews
import Derived.JoinedTies
import Derived.KernelRfl
namespace Go.Proofs.Ythaeepiichphjaa
/- THE CELL 'sum', in the pinned program and in every row, IS THE sha256 OF THE DUMP (.gsa) THAT YthaeepiichphjaaProg.lean LOADS. Nothing in Lean hashes anything: it is a label: what it is worth is what the hold of that sum in a sandbox is worth. -/
noncomputable def Try.pinned : Pinned := { name := "ythaeepiichphjaa", sum := "3096be102e16a2893d8a8ab0ae000ac8c77f1d19bf0b0b997c738ebe7195e873", checked := Try.checked }
namespace Rows
def none {H : Type} : Left H := { results := [], args := [] }

/-- 'gimletlaw12.SetTells': WHATEVER THE INPUT: true; the input reads as it did. -/
def setTellsSpec : ChangeSpec := { name := "setTells", fn := fun _ => fun
  | [d1, d2, d3, d4] => { results := [.lit (.bool true)], args := [d1, d2, d3, d4] }
  | _ => none }
def setTellsRow : OpenClaim := { program := "ythaeepiichphjaa", sum := "3096be102e16a2893d8a8ab0ae000ac8c77f1d19bf0b0b997c738ebe7195e873", func := "gimlet/gimletlaw12.SetTells", spec := "setTells", unfollowed := true, recurses := true, apart := false }
def SetTellsSaid : Prop := setTellsRow.holds Try.pinned (OpenSpec.ofChange setTellsSpec)

/-- ITS FALSE NEIGHBOUR: 'it returns false'. Refute it at one input. -/
def setTellsWrong : ChangeSpec := { name := "setTells", fn := fun _ => fun
  | [d1, d2, d3, d4] => { results := [.lit (.bool false)], args := [d1, d2, d3, d4] }
  | _ => none }
def SetTellsWrongFalsely : Prop := setTellsRow.holds Try.pinned (OpenSpec.ofChange setTellsWrong)

/-- 'gimletlaw12.SetNamed': WHATEVER THE INPUT: true; the input reads as it did. -/
def setNamedSpec : ChangeSpec := { name := "setNamed", fn := fun _ => fun
  | [d] => { results := [.lit (.bool true)], args := [d] }
  | _ => none }
def setNamedRow : OpenClaim := { program := "ythaeepiichphjaa", sum := "3096be102e16a2893d8a8ab0ae000ac8c77f1d19bf0b0b997c738ebe7195e873", func := "gimlet/gimletlaw12.SetNamed", spec := "setNamed", unfollowed := true, recurses := true, apart := false }
def SetNamedSaid : Prop := setNamedRow.holds Try.pinned (OpenSpec.ofChange setNamedSpec)

/-- ITS FALSE NEIGHBOUR: 'it returns false'. Refute it at one input. -/
def setNamedWrong : ChangeSpec := { name := "setNamed", fn := fun _ => fun
  | [d] => { results := [.lit (.bool false)], args := [d] }
  | _ => none }
def SetNamedWrongFalsely : Prop := setNamedRow.holds Try.pinned (OpenSpec.ofChange setNamedWrong)

/-- 'gimletlaw12.SetCovers': WHATEVER THE INPUT: true; the input reads as it did. -/
def setCoversSpec : ChangeSpec := { name := "setCovers", fn := fun _ => fun
  | [d1, d2, d3] => { results := [.lit (.bool true)], args := [d1, d2, d3] }
  | _ => none }
def setCoversRow : OpenClaim := { program := "ythaeepiichphjaa", sum := "3096be102e16a2893d8a8ab0ae000ac8c77f1d19bf0b0b997c738ebe7195e873", func := "gimlet/gimletlaw12.SetCovers", spec := "setCovers", unfollowed := true, recurses := true, apart := false }
def SetCoversSaid : Prop := setCoversRow.holds Try.pinned (OpenSpec.ofChange setCoversSpec)

/-- ITS FALSE NEIGHBOUR: 'it returns false'. Refute it at one input. -/
def setCoversWrong : ChangeSpec := { name := "setCovers", fn := fun _ => fun
  | [d1, d2, d3] => { results := [.lit (.bool false)], args := [d1, d2, d3] }
  | _ => none }
def SetCoversWrongFalsely : Prop := setCoversRow.holds Try.pinned (OpenSpec.ofChange setCoversWrong)

/-- 'gimletlaw12.SetOrder': WHATEVER THE INPUT: true; the input reads as it did. -/
def setOrderSpec : ChangeSpec := { name := "setOrder", fn := fun _ => fun
  | [d] => { results := [.lit (.bool true)], args := [d] }
  | _ => none }
def setOrderRow : OpenClaim := { program := "ythaeepiichphjaa", sum := "3096be102e16a2893d8a8ab0ae000ac8c77f1d19bf0b0b997c738ebe7195e873", func := "gimlet/gimletlaw12.SetOrder", spec := "setOrder", unfollowed := true, recurses := true, apart := false }
def SetOrderSaid : Prop := setOrderRow.holds Try.pinned (OpenSpec.ofChange setOrderSpec)

/-- ITS FALSE NEIGHBOUR: 'it returns false'. Refute it at one input. -/
def setOrderWrong : ChangeSpec := { name := "setOrder", fn := fun _ => fun
  | [d] => { results := [.lit (.bool false)], args := [d] }
  | _ => none }
def SetOrderWrongFalsely : Prop := setOrderRow.holds Try.pinned (OpenSpec.ofChange setOrderWrong)

/-- 'gimletlaw12.SetNot': WHATEVER THE INPUT: true; the input reads as it did. -/
def setNotSpec : ChangeSpec := { name := "setNot", fn := fun _ => fun
  | [d1, d2, d3] => { results := [.lit (.bool true)], args := [d1, d2, d3] }
  | _ => none }
def setNotRow : OpenClaim := { program := "ythaeepiichphjaa", sum := "3096be102e16a2893d8a8ab0ae000ac8c77f1d19bf0b0b997c738ebe7195e873", func := "gimlet/gimletlaw12.SetNot", spec := "setNot", unfollowed := true, recurses := true, apart := false }
def SetNotSaid : Prop := setNotRow.holds Try.pinned (OpenSpec.ofChange setNotSpec)

/-- ITS FALSE NEIGHBOUR: 'it returns false'. Refute it at one input. -/
def setNotWrong : ChangeSpec := { name := "setNot", fn := fun _ => fun
  | [d1, d2, d3] => { results := [.lit (.bool false)], args := [d1, d2, d3] }
  | _ => none }
def SetNotWrongFalsely : Prop := setNotRow.holds Try.pinned (OpenSpec.ofChange setNotWrong)

/-- 'gimletlaw12.SetLetters': WHATEVER THE INPUT: true; the input reads as it did. -/
def setLettersSpec : ChangeSpec := { name := "setLetters", fn := fun _ => fun
  | [d1, d2] => { results := [.lit (.bool true)], args := [d1, d2] }
  | _ => none }
def setLettersRow : OpenClaim := { program := "ythaeepiichphjaa", sum := "3096be102e16a2893d8a8ab0ae000ac8c77f1d19bf0b0b997c738ebe7195e873", func := "gimlet/gimletlaw12.SetLetters", spec := "setLetters", unfollowed := true, recurses := true, apart := false }
def SetLettersSaid : Prop := setLettersRow.holds Try.pinned (OpenSpec.ofChange setLettersSpec)

/-- ITS FALSE NEIGHBOUR: 'it returns false'. Refute it at one input. -/
def setLettersWrong : ChangeSpec := { name := "setLetters", fn := fun _ => fun
  | [d1, d2] => { results := [.lit (.bool false)], args := [d1, d2] }
  | _ => none }
def SetLettersWrongFalsely : Prop := setLettersRow.holds Try.pinned (OpenSpec.ofChange setLettersWrong)

/- THE SECOND FORM. 'bulk': how many values and letters a reading holds, each counted each time it is reached (what is shared counts as often as it is met; a slice's spare places count too). A statement '..UptoSaid' is the law's where the arguments, and the package variables that the reading takes, are together of bulk at most 1048576: NARROWER than '..Said'. Prove '..Said' where nothing that the law and all that it calls make is longer than what came in: it says more and counts as full. Else prove '..UptoSaid'. A law counts once. -/
mutual
def uptoBulk {H : Type} : DataW H → Nat
  | .lit (.string bytes) => bytes.length + 1
  | .lit _ => 1
  | .nil => 1
  | .ptr d => uptoBulk d + 1
  | .slice elems spare => uptoBulkAll elems + uptoBulkAll spare + 1
  | .agg parts => uptoBulkAll parts + 1
  | .iface _ d => uptoBulk d + 1
  | .map entries => uptoBulkEntries entries + 1
  | .held _ => 1
def uptoBulkAll {H : Type} : List (DataW H) → Nat
  | [] => 0
  | d :: r => uptoBulk d + uptoBulkAll r
def uptoBulkEntries {H : Type} : List (Lit × DataW H) → Nat
  | [] => 0
  | x :: r => uptoBulkEntry x + uptoBulkEntries r
def uptoBulkEntry {H : Type} : Lit × DataW H → Nat
  | (.string bytes, d) => bytes.length + uptoBulk d + 1
  | (_, d) => uptoBulk d + 1
 end
def uptoSmall : (H : Type) → List (DataW H) → Bool := fun _ ds => decide (uptoBulkAll ds ≤ 1048576)
def OpenSpec.upto (s : _root_.Go.ChangeSpec) : _root_.Go.OpenSpec := { _root_.Go.OpenSpec.ofChange s with cond := some uptoSmall }

/-- 'gimletlaw12.SetTells', WHERE WHAT IT READS IS OF BULK AT MOST 1048576: true; the input reads as it did. -/
def setTellsUptoRow : OpenClaim := { program := "ythaeepiichphjaa", sum := "3096be102e16a2893d8a8ab0ae000ac8c77f1d19bf0b0b997c738ebe7195e873", func := "gimlet/gimletlaw12.SetTells", spec := "setTells", unfollowed := true, recurses := true, apart := false, narrowed := true }
def SetTellsUptoSaid : Prop := setTellsUptoRow.holds Try.pinned (OpenSpec.upto setTellsSpec)

/-- 'gimletlaw12.SetNamed', WHERE WHAT IT READS IS OF BULK AT MOST 1048576: true; the input reads as it did. -/
def setNamedUptoRow : OpenClaim := { program := "ythaeepiichphjaa", sum := "3096be102e16a2893d8a8ab0ae000ac8c77f1d19bf0b0b997c738ebe7195e873", func := "gimlet/gimletlaw12.SetNamed", spec := "setNamed", unfollowed := true, recurses := true, apart := false, narrowed := true }
def SetNamedUptoSaid : Prop := setNamedUptoRow.holds Try.pinned (OpenSpec.upto setNamedSpec)

/-- 'gimletlaw12.SetCovers', WHERE WHAT IT READS IS OF BULK AT MOST 1048576: true; the input reads as it did. -/
def setCoversUptoRow : OpenClaim := { program := "ythaeepiichphjaa", sum := "3096be102e16a2893d8a8ab0ae000ac8c77f1d19bf0b0b997c738ebe7195e873", func := "gimlet/gimletlaw12.SetCovers", spec := "setCovers", unfollowed := true, recurses := true, apart := false, narrowed := true }
def SetCoversUptoSaid : Prop := setCoversUptoRow.holds Try.pinned (OpenSpec.upto setCoversSpec)

/-- 'gimletlaw12.SetOrder', WHERE WHAT IT READS IS OF BULK AT MOST 1048576: true; the input reads as it did. -/
def setOrderUptoRow : OpenClaim := { program := "ythaeepiichphjaa", sum := "3096be102e16a2893d8a8ab0ae000ac8c77f1d19bf0b0b997c738ebe7195e873", func := "gimlet/gimletlaw12.SetOrder", spec := "setOrder", unfollowed := true, recurses := true, apart := false, narrowed := true }
def SetOrderUptoSaid : Prop := setOrderUptoRow.holds Try.pinned (OpenSpec.upto setOrderSpec)

/-- 'gimletlaw12.SetNot', WHERE WHAT IT READS IS OF BULK AT MOST 1048576: true; the input reads as it did. -/
def setNotUptoRow : OpenClaim := { program := "ythaeepiichphjaa", sum := "3096be102e16a2893d8a8ab0ae000ac8c77f1d19bf0b0b997c738ebe7195e873", func := "gimlet/gimletlaw12.SetNot", spec := "setNot", unfollowed := true, recurses := true, apart := false, narrowed := true }
def SetNotUptoSaid : Prop := setNotUptoRow.holds Try.pinned (OpenSpec.upto setNotSpec)

/-- 'gimletlaw12.SetLetters', WHERE WHAT IT READS IS OF BULK AT MOST 1048576: true; the input reads as it did. -/
def setLettersUptoRow : OpenClaim := { program := "ythaeepiichphjaa", sum := "3096be102e16a2893d8a8ab0ae000ac8c77f1d19bf0b0b997c738ebe7195e873", func := "gimlet/gimletlaw12.SetLetters", spec := "setLetters", unfollowed := true, recurses := true, apart := false, narrowed := true }
def SetLettersUptoSaid : Prop := setLettersUptoRow.holds Try.pinned (OpenSpec.upto setLettersSpec)

end Rows
end Go.Proofs.Ythaeepiichphjaa
