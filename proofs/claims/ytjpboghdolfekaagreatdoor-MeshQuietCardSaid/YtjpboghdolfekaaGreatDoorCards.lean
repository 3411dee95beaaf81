/-
  DERIVED. GIVEN WITH THE SEED: THE CARDS: each row of YtjpboghdolfekaaGreatDoorRows.lean that lists a variable, with what it lists TIED to the program's text (the seventh form; the later family's looks); each row that meets fmt, with fmt's text TOLD by the authors' own Lean function (tested against real Go, not proved from fmt's source: count such statements apart). THE CARD IS WHAT COUNTS. Prove the row's statement (the work); the ties are given (YtjpboghdolfekaaGreatDoorTie.lean); close each card by the builder's one call (the guide's Derived/Test/ToyasCard.lean, 'card_holds'). Laid BY PROGRAM, IN A SANDBOX (cutbox-door.mjs). By AI agents, Wed Nov 11 2026. No macro, syntax, notation, axiom, sorry.
-/
import Derived.Test.YtjpboghdolfekaaGreatDoorRows
import GoSem.ClaimSeven
namespace Go.Proofs.YtjpboghdolfekaaGreatDoor
namespace Rows

/-- THE TIED CARD OF 'starlinglaw22.MeshQuiet'. -/
def meshQuietCard : Claim7 := { stood := { row := meshQuietRow, standIns := [], harness := (true, "a83b16879b968e56eda78452f763fd10808e28d325e503245b8146288bd479ce"), looks := true }, kinds := [], alts := [], laidByText := true, laidKinds := [.data, .data], laidTests := true, laidLooks := .later }
def MeshQuietCardSaid : Prop := Claim7.holds Tryz.pinned (.plain (OpenSpec.ofChange meshQuietSpec)) meshQuietCard

/-- THE SECOND FORM's CARD OF 'starlinglaw22.MeshQuiet'. -/
def meshQuietUptoCard : Claim7 := { stood := { row := meshQuietUptoRow, standIns := [], harness := (true, "a83b16879b968e56eda78452f763fd10808e28d325e503245b8146288bd479ce"), looks := true }, kinds := [], alts := [], laidByText := true, laidKinds := [.data, .data], laidTests := true, laidLooks := .later }
def MeshQuietUptoCardSaid : Prop := Claim7.holds Tryz.pinned (.plain (OpenSpec.upto meshQuietSpec)) meshQuietUptoCard
end Rows
end Go.Proofs.YtjpboghdolfekaaGreatDoor
