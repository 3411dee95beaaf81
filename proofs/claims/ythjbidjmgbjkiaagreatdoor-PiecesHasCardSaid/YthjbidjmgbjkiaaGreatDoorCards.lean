/-
  DERIVED. GIVEN WITH THE SEED: THE CARDS: each row of YthjbidjmgbjkiaaGreatDoorRows.lean that lists a variable, with what it lists TIED to the program's text (the seventh form; the later family's looks); each row that meets fmt, with fmt's text TOLD by the authors' own Lean function (tested against real Go, not proved from fmt's source: count such statements apart). THE CARD IS WHAT COUNTS. Prove the row's statement (the work); the ties are given (YthjbidjmgbjkiaaGreatDoorTie.lean); close each card by the builder's one call (the guide's Derived/Test/ToyasCard.lean, 'card_holds'). Laid BY PROGRAM, IN A SANDBOX (cutbox-door.mjs). By AI agents, Wed Nov 11 2026. No macro, syntax, notation, axiom, sorry.
-/
import Derived.Test.YthjbidjmgbjkiaaGreatDoorRows
import GoSem.ClaimSeven
namespace Go.Proofs.YthjbidjmgbjkiaaGreatDoor
namespace Rows

/-- THE TIED CARD OF 'starlinglaw09.PiecesHas'. -/
def piecesHasCard : Claim7 := { stood := { row := piecesHasRow, standIns := [], harness := (true, "1e1b28fbe8ed8b6052afdf442b07a74db903cb7f1c2bdc1fd2983d509baae171"), looks := true }, kinds := [], alts := [], laidByText := true, laidKinds := [.data], laidTests := true, laidLooks := .later }
def PiecesHasCardSaid : Prop := Claim7.holds Tryz.pinned (.plain (OpenSpec.ofChange piecesHasSpec)) piecesHasCard

/-- THE SECOND FORM's CARD OF 'starlinglaw09.PiecesHas'. -/
def piecesHasUptoCard : Claim7 := { stood := { row := piecesHasUptoRow, standIns := [], harness := (true, "1e1b28fbe8ed8b6052afdf442b07a74db903cb7f1c2bdc1fd2983d509baae171"), looks := true }, kinds := [], alts := [], laidByText := true, laidKinds := [.data], laidTests := true, laidLooks := .later }
def PiecesHasUptoCardSaid : Prop := Claim7.holds Tryz.pinned (.plain (OpenSpec.upto piecesHasSpec)) piecesHasUptoCard
end Rows
end Go.Proofs.YthjbidjmgbjkiaaGreatDoor
