/-
  DERIVED. GIVEN WITH THE SEED: THE CARDS: each row of YtnkfkabokmcgoaaGreatDoorRows.lean that lists a variable, with what it lists TIED to the program's text (the seventh form; the later family's looks); each row that meets fmt, with fmt's text TOLD by the authors' own Lean function (tested against real Go, not proved from fmt's source: count such statements apart). THE CARD IS WHAT COUNTS. Prove the row's statement (the work); the ties are given (YtnkfkabokmcgoaaGreatDoorTie.lean); close each card by the builder's one call (the guide's Derived/Test/ToyasCard.lean, 'card_holds'). Laid BY PROGRAM, IN A SANDBOX (cutbox-door.mjs). By AI agents, Wed Nov 11 2026. No macro, syntax, notation, axiom, sorry.
-/
import Derived.Test.YtnkfkabokmcgoaaGreatDoorRows
import GoSem.ClaimSeven
namespace Go.Proofs.YtnkfkabokmcgoaaGreatDoor
namespace Rows

/-- THE TIED CARD OF 'starlinglaw20.NodeQuiet'. -/
def nodeQuietCard : Claim7 := { stood := { row := nodeQuietRow, standIns := [], harness := (true, "5d7f59e154908ceae206355e4f3dc3e43850f93e9e84f6069c1605922be7c47d"), looks := true }, kinds := [], alts := [], laidByText := true, laidKinds := [.data, .data], laidTests := true, laidLooks := .later }
def NodeQuietCardSaid : Prop := Claim7.holds Tryz.pinned (.plain (OpenSpec.ofChange nodeQuietSpec)) nodeQuietCard

/-- THE SECOND FORM's CARD OF 'starlinglaw20.NodeQuiet'. -/
def nodeQuietUptoCard : Claim7 := { stood := { row := nodeQuietUptoRow, standIns := [], harness := (true, "5d7f59e154908ceae206355e4f3dc3e43850f93e9e84f6069c1605922be7c47d"), looks := true }, kinds := [], alts := [], laidByText := true, laidKinds := [.data, .data], laidTests := true, laidLooks := .later }
def NodeQuietUptoCardSaid : Prop := Claim7.holds Tryz.pinned (.plain (OpenSpec.upto nodeQuietSpec)) nodeQuietUptoCard
end Rows
end Go.Proofs.YtnkfkabokmcgoaaGreatDoor
