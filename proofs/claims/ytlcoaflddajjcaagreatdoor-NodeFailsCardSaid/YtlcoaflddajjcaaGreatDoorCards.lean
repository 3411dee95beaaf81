/-
  DERIVED. GIVEN WITH THE SEED: THE CARDS: each row of YtlcoaflddajjcaaGreatDoorRows.lean that lists a variable, with what it lists TIED to the program's text (the seventh form; the later family's looks); each row that meets fmt, with fmt's text TOLD by the authors' own Lean function (tested against real Go, not proved from fmt's source: count such statements apart). THE CARD IS WHAT COUNTS. Prove the row's statement (the work); the ties are given (YtlcoaflddajjcaaGreatDoorTie.lean); close each card by the builder's one call (the guide's Derived/Test/ToyasCard.lean, 'card_holds'). Laid BY PROGRAM, IN A SANDBOX (cutbox-door.mjs). By AI agents, Wed Nov 11 2026. No macro, syntax, notation, axiom, sorry.
-/
import Derived.Test.YtlcoaflddajjcaaGreatDoorRows
import GoSem.ClaimSeven
namespace Go.Proofs.YtlcoaflddajjcaaGreatDoor
namespace Rows

/-- THE TIED CARD OF 'starlinglaw20.NodeFails'. -/
def nodeFailsCard : Claim7 := { stood := { row := nodeFailsRow, standIns := [], harness := (true, "ed40fe24e27f1a8d016b51084719234f4f9abb12268a14d21452b8ac5516e751"), looks := true }, kinds := [], alts := [], laidByText := true, laidKinds := [.data, .data], laidTests := true, laidLooks := .later }
def NodeFailsCardSaid : Prop := Claim7.holds Tryz.pinned (.plain (OpenSpec.ofChange nodeFailsSpec)) nodeFailsCard

/-- THE SECOND FORM's CARD OF 'starlinglaw20.NodeFails'. -/
def nodeFailsUptoCard : Claim7 := { stood := { row := nodeFailsUptoRow, standIns := [], harness := (true, "ed40fe24e27f1a8d016b51084719234f4f9abb12268a14d21452b8ac5516e751"), looks := true }, kinds := [], alts := [], laidByText := true, laidKinds := [.data, .data], laidTests := true, laidLooks := .later }
def NodeFailsUptoCardSaid : Prop := Claim7.holds Tryz.pinned (.plain (OpenSpec.upto nodeFailsSpec)) nodeFailsUptoCard
end Rows
end Go.Proofs.YtlcoaflddajjcaaGreatDoor
