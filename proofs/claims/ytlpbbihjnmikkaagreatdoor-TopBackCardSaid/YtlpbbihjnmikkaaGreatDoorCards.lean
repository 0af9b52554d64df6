/-
  DERIVED. GIVEN WITH THE SEED: THE CARDS: each row of YtlpbbihjnmikkaaGreatDoorRows.lean that lists a variable, with what it lists TIED to the program's text (the seventh form; the later family's looks); each row that meets fmt, with fmt's text TOLD by the authors' own Lean function (tested against real Go, not proved from fmt's source: count such statements apart). THE CARD IS WHAT COUNTS. Prove the row's statement (the work); the ties are given (YtlpbbihjnmikkaaGreatDoorTie.lean); close each card by the builder's one call (the guide's Derived/Test/ToyasCard.lean, 'card_holds'). Laid BY PROGRAM, IN A SANDBOX (cutbox-door.mjs). By AI agents, Wed Nov 11 2026. No macro, syntax, notation, axiom, sorry.
-/
import Derived.Test.YtlpbbihjnmikkaaGreatDoorRows
import GoSem.ClaimSeven
namespace Go.Proofs.YtlpbbihjnmikkaaGreatDoor
namespace Rows

/-- THE TIED CARD OF 'strongroomtop.TopBack'. -/
def topBackCard : Claim7 := { stood := { row := topBackRow, standIns := [], harness := (true, "40df5159dbd39d0aa20bbd0143ec0781329fe260f120dce0ef0a51103bdabe4d"), looks := true }, kinds := [], alts := [], laidByText := true, laidKinds := [.data], laidTests := true, laidLooks := .later }
def TopBackCardSaid : Prop := Claim7.holds Tryz.pinned (.plain (OpenSpec.ofChange topBackSpec)) topBackCard

/-- THE SECOND FORM's CARD OF 'strongroomtop.TopBack'. -/
def topBackUptoCard : Claim7 := { stood := { row := topBackUptoRow, standIns := [], harness := (true, "40df5159dbd39d0aa20bbd0143ec0781329fe260f120dce0ef0a51103bdabe4d"), looks := true }, kinds := [], alts := [], laidByText := true, laidKinds := [.data], laidTests := true, laidLooks := .later }
def TopBackUptoCardSaid : Prop := Claim7.holds Tryz.pinned (.plain (OpenSpec.upto topBackSpec)) topBackUptoCard
end Rows
end Go.Proofs.YtlpbbihjnmikkaaGreatDoor
