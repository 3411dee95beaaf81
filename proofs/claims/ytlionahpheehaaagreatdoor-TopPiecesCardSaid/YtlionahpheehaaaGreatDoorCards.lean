/-
  DERIVED. GIVEN WITH THE SEED: THE CARDS: each row of YtlionahpheehaaaGreatDoorRows.lean that lists a variable, with what it lists TIED to the program's text (the seventh form; the later family's looks); each row that meets fmt, with fmt's text TOLD by the authors' own Lean function (tested against real Go, not proved from fmt's source: count such statements apart). THE CARD IS WHAT COUNTS. Prove the row's statement (the work); the ties are given (YtlionahpheehaaaGreatDoorTie.lean); close each card by the builder's one call (the guide's Derived/Test/ToyasCard.lean, 'card_holds'). Laid BY PROGRAM, IN A SANDBOX (cutbox-door.mjs). By AI agents, Wed Nov 11 2026. No macro, syntax, notation, axiom, sorry.
-/
import Derived.Test.YtlionahpheehaaaGreatDoorRows
import GoSem.ClaimSeven
namespace Go.Proofs.YtlionahpheehaaaGreatDoor
namespace Rows

/-- THE TIED CARD OF 'starlingtop.TopPieces'. -/
def topPiecesCard : Claim7 := { stood := { row := topPiecesRow, standIns := [], harness := (true, "34973db4f6345c4927e01ed67f82bbb5fbcb42d48be400041887a2936cdf131c"), looks := true }, kinds := [], alts := [], laidByText := true, laidKinds := [.data], laidTests := true, laidLooks := .later }
def TopPiecesCardSaid : Prop := Claim7.holds Tryz.pinned (.plain (OpenSpec.ofChange topPiecesSpec)) topPiecesCard

/-- THE SECOND FORM's CARD OF 'starlingtop.TopPieces'. -/
def topPiecesUptoCard : Claim7 := { stood := { row := topPiecesUptoRow, standIns := [], harness := (true, "34973db4f6345c4927e01ed67f82bbb5fbcb42d48be400041887a2936cdf131c"), looks := true }, kinds := [], alts := [], laidByText := true, laidKinds := [.data], laidTests := true, laidLooks := .later }
def TopPiecesUptoCardSaid : Prop := Claim7.holds Tryz.pinned (.plain (OpenSpec.upto topPiecesSpec)) topPiecesUptoCard
end Rows
end Go.Proofs.YtlionahpheehaaaGreatDoor
