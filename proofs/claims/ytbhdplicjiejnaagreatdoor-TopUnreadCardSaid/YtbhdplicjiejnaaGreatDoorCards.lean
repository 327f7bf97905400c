/-
  DERIVED. GIVEN WITH THE SEED: THE CARDS: each row of YtbhdplicjiejnaaGreatDoorRows.lean that lists a variable, with what it lists TIED to the program's text (the seventh form; the later family's looks); each row that meets fmt, with fmt's text TOLD by the authors' own Lean function (tested against real Go, not proved from fmt's source: count such statements apart). THE CARD IS WHAT COUNTS. Prove the row's statement (the work); the ties are given (YtbhdplicjiejnaaGreatDoorTie.lean); close each card by the builder's one call (the guide's Derived/Test/ToyasCard.lean, 'card_holds'). Laid BY PROGRAM, IN A SANDBOX (cutbox-door.mjs). By AI agents, Wed Nov 11 2026. No macro, syntax, notation, axiom, sorry.
-/
import Derived.Test.YtbhdplicjiejnaaGreatDoorRows
import GoSem.ClaimSeven
namespace Go.Proofs.YtbhdplicjiejnaaGreatDoor
namespace Rows

/-- THE TIED CARD OF 'gimlettop.TopUnread'. -/
def topUnreadCard : Claim7 := { stood := { row := topUnreadRow, standIns := [], harness := (true, "3b5f21897934126d215d5b4ec5af4cffb90c8e993db3978f0a377d5dd3acba2a"), looks := false }, kinds := [], alts := [], laidByText := true, laidKinds := [.data, .data, .data], laidTests := true, laidLooks := .later }
def TopUnreadCardSaid : Prop := Claim7.holds Tryz.pinned (.plain (OpenSpec.ofChange topUnreadSpec)) topUnreadCard

/-- THE SECOND FORM's CARD OF 'gimlettop.TopUnread'. -/
def topUnreadUptoCard : Claim7 := { stood := { row := topUnreadUptoRow, standIns := [], harness := (true, "3b5f21897934126d215d5b4ec5af4cffb90c8e993db3978f0a377d5dd3acba2a"), looks := false }, kinds := [], alts := [], laidByText := true, laidKinds := [.data, .data, .data], laidTests := true, laidLooks := .later }
def TopUnreadUptoCardSaid : Prop := Claim7.holds Tryz.pinned (.plain (OpenSpec.upto topUnreadSpec)) topUnreadUptoCard
end Rows
end Go.Proofs.YtbhdplicjiejnaaGreatDoor
