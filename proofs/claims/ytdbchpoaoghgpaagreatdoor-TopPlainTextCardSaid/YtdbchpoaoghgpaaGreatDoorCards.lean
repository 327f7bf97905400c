/-
  DERIVED. GIVEN WITH THE SEED: THE CARDS: each row of YtdbchpoaoghgpaaGreatDoorRows.lean that lists a variable, with what it lists TIED to the program's text (the seventh form; the later family's looks); each row that meets fmt, with fmt's text TOLD by the authors' own Lean function (tested against real Go, not proved from fmt's source: count such statements apart). THE CARD IS WHAT COUNTS. Prove the row's statement (the work); the ties are given (YtdbchpoaoghgpaaGreatDoorTie.lean); close each card by the builder's one call (the guide's Derived/Test/ToyasCard.lean, 'card_holds'). Laid BY PROGRAM, IN A SANDBOX (cutbox-door.mjs). By AI agents, Wed Nov 11 2026. No macro, syntax, notation, axiom, sorry.
-/
import Derived.Test.YtdbchpoaoghgpaaGreatDoorRows
import GoSem.ClaimSeven
namespace Go.Proofs.YtdbchpoaoghgpaaGreatDoor
namespace Rows

/-- THE TIED CARD OF 'gimlettop.TopPlainText'. -/
def topPlainTextCard : Claim7 := { stood := { row := topPlainTextRow, standIns := [], harness := (true, "bc9f839e5d64eafaa6866776bf53d843b56b2baf766ac4a7c1c0db5871afbb99"), looks := false }, kinds := [], alts := [], laidByText := true, laidKinds := [.data, .data, .data], laidTests := true, laidLooks := .later }
def TopPlainTextCardSaid : Prop := Claim7.holds Tryz.pinned (.plain (OpenSpec.ofChange topPlainTextSpec)) topPlainTextCard

/-- THE SECOND FORM's CARD OF 'gimlettop.TopPlainText'. -/
def topPlainTextUptoCard : Claim7 := { stood := { row := topPlainTextUptoRow, standIns := [], harness := (true, "bc9f839e5d64eafaa6866776bf53d843b56b2baf766ac4a7c1c0db5871afbb99"), looks := false }, kinds := [], alts := [], laidByText := true, laidKinds := [.data, .data, .data], laidTests := true, laidLooks := .later }
def TopPlainTextUptoCardSaid : Prop := Claim7.holds Tryz.pinned (.plain (OpenSpec.upto topPlainTextSpec)) topPlainTextUptoCard
end Rows
end Go.Proofs.YtdbchpoaoghgpaaGreatDoor
