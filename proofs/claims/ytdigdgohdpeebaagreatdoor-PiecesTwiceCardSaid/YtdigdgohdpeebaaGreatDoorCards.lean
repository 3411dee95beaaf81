/-
  DERIVED. GIVEN WITH THE SEED: THE CARDS: each row of YtdigdgohdpeebaaGreatDoorRows.lean that lists a variable, with what it lists TIED to the program's text (the seventh form; the later family's looks); each row that meets fmt, with fmt's text TOLD by the authors' own Lean function (tested against real Go, not proved from fmt's source: count such statements apart). THE CARD IS WHAT COUNTS. Prove the row's statement (the work); the ties are given (YtdigdgohdpeebaaGreatDoorTie.lean); close each card by the builder's one call (the guide's Derived/Test/ToyasCard.lean, 'card_holds'). Laid BY PROGRAM, IN A SANDBOX (cutbox-door.mjs). By AI agents, Wed Nov 11 2026. No macro, syntax, notation, axiom, sorry.
-/
import Derived.Test.YtdigdgohdpeebaaGreatDoorRows
import GoSem.ClaimSeven
namespace Go.Proofs.YtdigdgohdpeebaaGreatDoor
namespace Rows

/-- THE TIED CARD OF 'starlinglaw09.PiecesTwice'. -/
def piecesTwiceCard : Claim7 := { stood := { row := piecesTwiceRow, standIns := [], harness := (true, "4f616eaa78bad3d0122bbb3bee8061d06d5d6274c5e34fe7c01d9b7449856f75"), looks := true }, kinds := [], alts := [], laidByText := true, laidKinds := [.data], laidTests := true, laidLooks := .later }
def PiecesTwiceCardSaid : Prop := Claim7.holds Tryz.pinned (.plain (OpenSpec.ofChange piecesTwiceSpec)) piecesTwiceCard

/-- THE SECOND FORM's CARD OF 'starlinglaw09.PiecesTwice'. -/
def piecesTwiceUptoCard : Claim7 := { stood := { row := piecesTwiceUptoRow, standIns := [], harness := (true, "4f616eaa78bad3d0122bbb3bee8061d06d5d6274c5e34fe7c01d9b7449856f75"), looks := true }, kinds := [], alts := [], laidByText := true, laidKinds := [.data], laidTests := true, laidLooks := .later }
def PiecesTwiceUptoCardSaid : Prop := Claim7.holds Tryz.pinned (.plain (OpenSpec.upto piecesTwiceSpec)) piecesTwiceUptoCard
end Rows
end Go.Proofs.YtdigdgohdpeebaaGreatDoor
