/-
  DERIVED. GIVEN WITH THE SEED: THE CARDS: each row of YthnfckodljbgbaaGreatDoorRows.lean that lists a variable, with what it lists TIED to the program's text (the seventh form; the later family's looks); each row that meets fmt, with fmt's text TOLD by the authors' own Lean function (tested against real Go, not proved from fmt's source: count such statements apart). THE CARD IS WHAT COUNTS. Prove the row's statement (the work); the ties are given (YthnfckodljbgbaaGreatDoorTie.lean); close each card by the builder's one call (the guide's Derived/Test/ToyasCard.lean, 'card_holds'). Laid BY PROGRAM, IN A SANDBOX (cutbox-door.mjs). By AI agents, Wed Nov 11 2026. No macro, syntax, notation, axiom, sorry.
-/
import Derived.Test.YthnfckodljbgbaaGreatDoorRows
import GoSem.ClaimSeven
namespace Go.Proofs.YthnfckodljbgbaaGreatDoor
namespace Rows

/-- THE TIED CARD OF 'starlinglaw09.PiecesLasts'. -/
def piecesLastsCard : Claim7 := { stood := { row := piecesLastsRow, standIns := [], harness := (true, "508fff76a6aa1b3431d8703a985ffab6f8aa49d917e7e732019af4f4eb278aa7"), looks := true }, kinds := [], alts := [], laidByText := true, laidKinds := [.data], laidTests := true, laidLooks := .later }
def PiecesLastsCardSaid : Prop := Claim7.holds Tryz.pinned (.plain (OpenSpec.ofChange piecesLastsSpec)) piecesLastsCard

/-- THE SECOND FORM's CARD OF 'starlinglaw09.PiecesLasts'. -/
def piecesLastsUptoCard : Claim7 := { stood := { row := piecesLastsUptoRow, standIns := [], harness := (true, "508fff76a6aa1b3431d8703a985ffab6f8aa49d917e7e732019af4f4eb278aa7"), looks := true }, kinds := [], alts := [], laidByText := true, laidKinds := [.data], laidTests := true, laidLooks := .later }
def PiecesLastsUptoCardSaid : Prop := Claim7.holds Tryz.pinned (.plain (OpenSpec.upto piecesLastsSpec)) piecesLastsUptoCard
end Rows
end Go.Proofs.YthnfckodljbgbaaGreatDoor
