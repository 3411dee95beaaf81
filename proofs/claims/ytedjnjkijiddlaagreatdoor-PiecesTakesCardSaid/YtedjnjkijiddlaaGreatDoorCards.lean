/-
  DERIVED. GIVEN WITH THE SEED: THE CARDS: each row of YtedjnjkijiddlaaGreatDoorRows.lean that lists a variable, with what it lists TIED to the program's text (the seventh form; the later family's looks); each row that meets fmt, with fmt's text TOLD by the authors' own Lean function (tested against real Go, not proved from fmt's source: count such statements apart). THE CARD IS WHAT COUNTS. Prove the row's statement (the work); the ties are given (YtedjnjkijiddlaaGreatDoorTie.lean); close each card by the builder's one call (the guide's Derived/Test/ToyasCard.lean, 'card_holds'). Laid BY PROGRAM, IN A SANDBOX (cutbox-door.mjs). By AI agents, Wed Nov 11 2026. No macro, syntax, notation, axiom, sorry.
-/
import Derived.Test.YtedjnjkijiddlaaGreatDoorRows
import GoSem.ClaimSeven
namespace Go.Proofs.YtedjnjkijiddlaaGreatDoor
namespace Rows

/-- THE TIED CARD OF 'starlinglaw09.PiecesOver'. -/
def piecesOverCard : Claim7 := { stood := { row := piecesOverRow, standIns := [], harness := (true, "ce16074507b94a1cfee818c0dab2f745f4743c4992cdf9a69604850a8a087226"), looks := true }, kinds := [], alts := [], laidByText := true, laidKinds := [.data], laidTests := true, laidLooks := .later }
def PiecesOverCardSaid : Prop := Claim7.holds Tryz.pinned (.plain (OpenSpec.ofChange piecesOverSpec)) piecesOverCard

/-- THE TIED CARD OF 'starlinglaw09.PiecesTakes'. -/
def piecesTakesCard : Claim7 := { stood := { row := piecesTakesRow, standIns := [], harness := (true, "ce16074507b94a1cfee818c0dab2f745f4743c4992cdf9a69604850a8a087226"), looks := true }, kinds := [], alts := [], laidByText := true, laidKinds := [.data], laidTests := true, laidLooks := .later }
def PiecesTakesCardSaid : Prop := Claim7.holds Tryz.pinned (.plain (OpenSpec.ofChange piecesTakesSpec)) piecesTakesCard

/-- THE TIED CARD OF 'starlinglaw09.PiecesTwice'. -/
def piecesTwiceCard : Claim7 := { stood := { row := piecesTwiceRow, standIns := [], harness := (true, "ce16074507b94a1cfee818c0dab2f745f4743c4992cdf9a69604850a8a087226"), looks := true }, kinds := [], alts := [], laidByText := true, laidKinds := [.data], laidTests := true, laidLooks := .later }
def PiecesTwiceCardSaid : Prop := Claim7.holds Tryz.pinned (.plain (OpenSpec.ofChange piecesTwiceSpec)) piecesTwiceCard

/-- THE SECOND FORM's CARD OF 'starlinglaw09.PiecesOver'. -/
def piecesOverUptoCard : Claim7 := { stood := { row := piecesOverUptoRow, standIns := [], harness := (true, "ce16074507b94a1cfee818c0dab2f745f4743c4992cdf9a69604850a8a087226"), looks := true }, kinds := [], alts := [], laidByText := true, laidKinds := [.data], laidTests := true, laidLooks := .later }
def PiecesOverUptoCardSaid : Prop := Claim7.holds Tryz.pinned (.plain (OpenSpec.upto piecesOverSpec)) piecesOverUptoCard

/-- THE SECOND FORM's CARD OF 'starlinglaw09.PiecesTakes'. -/
def piecesTakesUptoCard : Claim7 := { stood := { row := piecesTakesUptoRow, standIns := [], harness := (true, "ce16074507b94a1cfee818c0dab2f745f4743c4992cdf9a69604850a8a087226"), looks := true }, kinds := [], alts := [], laidByText := true, laidKinds := [.data], laidTests := true, laidLooks := .later }
def PiecesTakesUptoCardSaid : Prop := Claim7.holds Tryz.pinned (.plain (OpenSpec.upto piecesTakesSpec)) piecesTakesUptoCard

/-- THE SECOND FORM's CARD OF 'starlinglaw09.PiecesTwice'. -/
def piecesTwiceUptoCard : Claim7 := { stood := { row := piecesTwiceUptoRow, standIns := [], harness := (true, "ce16074507b94a1cfee818c0dab2f745f4743c4992cdf9a69604850a8a087226"), looks := true }, kinds := [], alts := [], laidByText := true, laidKinds := [.data], laidTests := true, laidLooks := .later }
def PiecesTwiceUptoCardSaid : Prop := Claim7.holds Tryz.pinned (.plain (OpenSpec.upto piecesTwiceSpec)) piecesTwiceUptoCard
end Rows
end Go.Proofs.YtedjnjkijiddlaaGreatDoor
