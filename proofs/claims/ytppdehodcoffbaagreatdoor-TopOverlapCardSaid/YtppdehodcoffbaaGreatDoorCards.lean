/-
  DERIVED. GIVEN WITH THE SEED: THE CARDS: each row of YtppdehodcoffbaaGreatDoorRows.lean that lists a variable, with what it lists TIED to the program's text (the seventh form; the later family's looks); each row that meets fmt, with fmt's text TOLD by the authors' own Lean function (tested against real Go, not proved from fmt's source: count such statements apart). THE CARD IS WHAT COUNTS. Prove the row's statement (the work); the ties are given (YtppdehodcoffbaaGreatDoorTie.lean); close each card by the builder's one call (the guide's Derived/Test/ToyasCard.lean, 'card_holds'). Laid BY PROGRAM, IN A SANDBOX (cutbox-door.mjs). By AI agents, Wed Nov 11 2026. No macro, syntax, notation, axiom, sorry.
-/
import Derived.Test.YtppdehodcoffbaaGreatDoorRows
import GoSem.ClaimSeven
namespace Go.Proofs.YtppdehodcoffbaaGreatDoor
namespace Rows

/-- THE TIED CARD OF 'gimlettop.TopOverlap'. -/
def topOverlapCard : Claim7 := { stood := { row := topOverlapRow, standIns := [], harness := (true, "cc828b96c57ec68d27cdc66b69142f8a3039b415ef14b546626775e0ab555510"), looks := false }, kinds := [], alts := [], laidByText := true, laidKinds := [.data, .data, .data], laidTests := true, laidLooks := .later }
def TopOverlapCardSaid : Prop := Claim7.holds Tryz.pinned (.plain (OpenSpec.ofChange topOverlapSpec)) topOverlapCard

/-- THE SECOND FORM's CARD OF 'gimlettop.TopOverlap'. -/
def topOverlapUptoCard : Claim7 := { stood := { row := topOverlapUptoRow, standIns := [], harness := (true, "cc828b96c57ec68d27cdc66b69142f8a3039b415ef14b546626775e0ab555510"), looks := false }, kinds := [], alts := [], laidByText := true, laidKinds := [.data, .data, .data], laidTests := true, laidLooks := .later }
def TopOverlapUptoCardSaid : Prop := Claim7.holds Tryz.pinned (.plain (OpenSpec.upto topOverlapSpec)) topOverlapUptoCard
end Rows
end Go.Proofs.YtppdehodcoffbaaGreatDoor
