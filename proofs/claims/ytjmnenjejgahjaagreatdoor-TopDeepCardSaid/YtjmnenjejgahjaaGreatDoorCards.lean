/-
  DERIVED. GIVEN WITH THE SEED: THE CARDS: each row of YtjmnenjejgahjaaGreatDoorRows.lean that lists a variable, with what it lists TIED to the program's text (the seventh form; the later family's looks); each row that meets fmt, with fmt's text TOLD by the authors' own Lean function (tested against real Go, not proved from fmt's source: count such statements apart). THE CARD IS WHAT COUNTS. Prove the row's statement (the work); the ties are given (YtjmnenjejgahjaaGreatDoorTie.lean); close each card by the builder's one call (the guide's Derived/Test/ToyasCard.lean, 'card_holds'). Laid BY PROGRAM, IN A SANDBOX (cutbox-door.mjs). By AI agents, Wed Nov 11 2026. No macro, syntax, notation, axiom, sorry.
-/
import Derived.Test.YtjmnenjejgahjaaGreatDoorRows
import GoSem.ClaimSeven
namespace Go.Proofs.YtjmnenjejgahjaaGreatDoor
namespace Rows

/-- THE TIED CARD OF 'gimlettop.TopDeep'. -/
def topDeepCard : Claim7 := { stood := { row := topDeepRow, standIns := [], harness := (true, "fdd7c79c4f74f77c8a6f8ea19a8c01052503e5a22931da8f5385231e5ee1c23b"), looks := false }, kinds := [], alts := [], laidByText := true, laidKinds := [.data, .data, .data], laidTests := true, laidLooks := .later }
def TopDeepCardSaid : Prop := Claim7.holds Tryz.pinned (.plain (OpenSpec.ofChange topDeepSpec)) topDeepCard

/-- THE SECOND FORM's CARD OF 'gimlettop.TopDeep'. -/
def topDeepUptoCard : Claim7 := { stood := { row := topDeepUptoRow, standIns := [], harness := (true, "fdd7c79c4f74f77c8a6f8ea19a8c01052503e5a22931da8f5385231e5ee1c23b"), looks := false }, kinds := [], alts := [], laidByText := true, laidKinds := [.data, .data, .data], laidTests := true, laidLooks := .later }
def TopDeepUptoCardSaid : Prop := Claim7.holds Tryz.pinned (.plain (OpenSpec.upto topDeepSpec)) topDeepUptoCard
end Rows
end Go.Proofs.YtjmnenjejgahjaaGreatDoor
