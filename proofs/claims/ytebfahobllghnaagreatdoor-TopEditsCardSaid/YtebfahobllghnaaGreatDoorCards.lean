/-
  DERIVED. GIVEN WITH THE SEED: THE CARDS: each row of YtebfahobllghnaaGreatDoorRows.lean that lists a variable, with what it lists TIED to the program's text (the seventh form; the later family's looks); each row that meets fmt, with fmt's text TOLD by the authors' own Lean function (tested against real Go, not proved from fmt's source: count such statements apart). THE CARD IS WHAT COUNTS. Prove the row's statement (the work); the ties are given (YtebfahobllghnaaGreatDoorTie.lean); close each card by the builder's one call (the guide's Derived/Test/ToyasCard.lean, 'card_holds'). Laid BY PROGRAM, IN A SANDBOX (cutbox-door.mjs). By AI agents, Wed Nov 11 2026. No macro, syntax, notation, axiom, sorry.
-/
import Derived.Test.YtebfahobllghnaaGreatDoorRows
import GoSem.ClaimSeven
namespace Go.Proofs.YtebfahobllghnaaGreatDoor
namespace Rows

/-- THE TIED CARD OF 'gimlettop.TopEdits'. -/
def topEditsCard : Claim7 := { stood := { row := topEditsRow, standIns := [], harness := (true, "8f3451e4e2258320492d909d1fcf9a764036b858bba0bac0e6510474dacbd6eb"), looks := false }, kinds := [], alts := [], laidByText := true, laidKinds := [.data, .data, .data], laidTests := true, laidLooks := .later }
def TopEditsCardSaid : Prop := Claim7.holds Tryz.pinned (.plain (OpenSpec.ofChange topEditsSpec)) topEditsCard

/-- THE SECOND FORM's CARD OF 'gimlettop.TopEdits'. -/
def topEditsUptoCard : Claim7 := { stood := { row := topEditsUptoRow, standIns := [], harness := (true, "8f3451e4e2258320492d909d1fcf9a764036b858bba0bac0e6510474dacbd6eb"), looks := false }, kinds := [], alts := [], laidByText := true, laidKinds := [.data, .data, .data], laidTests := true, laidLooks := .later }
def TopEditsUptoCardSaid : Prop := Claim7.holds Tryz.pinned (.plain (OpenSpec.upto topEditsSpec)) topEditsUptoCard
end Rows
end Go.Proofs.YtebfahobllghnaaGreatDoor
