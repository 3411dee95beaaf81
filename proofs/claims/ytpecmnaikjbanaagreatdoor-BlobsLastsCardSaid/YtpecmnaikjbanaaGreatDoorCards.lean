/-
  DERIVED. GIVEN WITH THE SEED: THE CARDS: each row of YtpecmnaikjbanaaGreatDoorRows.lean that lists a variable, with what it lists TIED to the program's text (the seventh form; the later family's looks); each row that meets fmt, with fmt's text TOLD by the authors' own Lean function (tested against real Go, not proved from fmt's source: count such statements apart). THE CARD IS WHAT COUNTS. Prove the row's statement (the work); the ties are given (YtpecmnaikjbanaaGreatDoorTie.lean); close each card by the builder's one call (the guide's Derived/Test/ToyasCard.lean, 'card_holds'). Laid BY PROGRAM, IN A SANDBOX (cutbox-door.mjs). By AI agents, Wed Nov 11 2026. No macro, syntax, notation, axiom, sorry.
-/
import Derived.Test.YtpecmnaikjbanaaGreatDoorRows
import GoSem.ClaimSeven
namespace Go.Proofs.YtpecmnaikjbanaaGreatDoor
namespace Rows

/-- THE TIED CARD OF 'starlinglaw08.BlobsSpoilt'. -/
def blobsSpoiltCard : Claim7 := { stood := { row := blobsSpoiltRow, standIns := [], harness := (true, "9ac3d14276d4346ed76782cf0da9cc86bee355d671e800a0104d340d8779fac6"), looks := true }, kinds := [], alts := [], laidByText := true, laidKinds := [.data], laidTests := true, laidLooks := .later }
def BlobsSpoiltCardSaid : Prop := Claim7.holds Tryz.pinned (.plain (OpenSpec.ofChange blobsSpoiltSpec)) blobsSpoiltCard

/-- THE TIED CARD OF 'starlinglaw08.BlobsGranted'. -/
def blobsGrantedCard : Claim7 := { stood := { row := blobsGrantedRow, standIns := [], harness := (true, "9ac3d14276d4346ed76782cf0da9cc86bee355d671e800a0104d340d8779fac6"), looks := true }, kinds := [], alts := [], laidByText := true, laidKinds := [.data], laidTests := true, laidLooks := .later }
def BlobsGrantedCardSaid : Prop := Claim7.holds Tryz.pinned (.plain (OpenSpec.ofChange blobsGrantedSpec)) blobsGrantedCard

/-- THE TIED CARD OF 'starlinglaw08.BlobsHalf'. -/
def blobsHalfCard : Claim7 := { stood := { row := blobsHalfRow, standIns := [], harness := (true, "9ac3d14276d4346ed76782cf0da9cc86bee355d671e800a0104d340d8779fac6"), looks := true }, kinds := [], alts := [], laidByText := true, laidKinds := [.data], laidTests := true, laidLooks := .later }
def BlobsHalfCardSaid : Prop := Claim7.holds Tryz.pinned (.plain (OpenSpec.ofChange blobsHalfSpec)) blobsHalfCard

/-- THE TIED CARD OF 'starlinglaw08.BlobsAgain'. -/
def blobsAgainCard : Claim7 := { stood := { row := blobsAgainRow, standIns := [], harness := (true, "9ac3d14276d4346ed76782cf0da9cc86bee355d671e800a0104d340d8779fac6"), looks := true }, kinds := [], alts := [], laidByText := true, laidKinds := [.data], laidTests := true, laidLooks := .later }
def BlobsAgainCardSaid : Prop := Claim7.holds Tryz.pinned (.plain (OpenSpec.ofChange blobsAgainSpec)) blobsAgainCard

/-- THE TIED CARD OF 'starlinglaw08.BlobsShared'. -/
def blobsSharedCard : Claim7 := { stood := { row := blobsSharedRow, standIns := [], harness := (true, "9ac3d14276d4346ed76782cf0da9cc86bee355d671e800a0104d340d8779fac6"), looks := true }, kinds := [], alts := [], laidByText := true, laidKinds := [.data], laidTests := true, laidLooks := .later }
def BlobsSharedCardSaid : Prop := Claim7.holds Tryz.pinned (.plain (OpenSpec.ofChange blobsSharedSpec)) blobsSharedCard

/-- THE TIED CARD OF 'starlinglaw08.BlobsWhole'. -/
def blobsWholeCard : Claim7 := { stood := { row := blobsWholeRow, standIns := [], harness := (true, "9ac3d14276d4346ed76782cf0da9cc86bee355d671e800a0104d340d8779fac6"), looks := true }, kinds := [], alts := [], laidByText := true, laidKinds := [.data], laidTests := true, laidLooks := .later }
def BlobsWholeCardSaid : Prop := Claim7.holds Tryz.pinned (.plain (OpenSpec.ofChange blobsWholeSpec)) blobsWholeCard

/-- THE TIED CARD OF 'starlinglaw08.BlobsLasts'. -/
def blobsLastsCard : Claim7 := { stood := { row := blobsLastsRow, standIns := [], harness := (true, "9ac3d14276d4346ed76782cf0da9cc86bee355d671e800a0104d340d8779fac6"), looks := true }, kinds := [], alts := [], laidByText := true, laidKinds := [.data], laidTests := true, laidLooks := .later }
def BlobsLastsCardSaid : Prop := Claim7.holds Tryz.pinned (.plain (OpenSpec.ofChange blobsLastsSpec)) blobsLastsCard

/-- THE SECOND FORM's CARD OF 'starlinglaw08.BlobsSpoilt'. -/
def blobsSpoiltUptoCard : Claim7 := { stood := { row := blobsSpoiltUptoRow, standIns := [], harness := (true, "9ac3d14276d4346ed76782cf0da9cc86bee355d671e800a0104d340d8779fac6"), looks := true }, kinds := [], alts := [], laidByText := true, laidKinds := [.data], laidTests := true, laidLooks := .later }
def BlobsSpoiltUptoCardSaid : Prop := Claim7.holds Tryz.pinned (.plain (OpenSpec.upto blobsSpoiltSpec)) blobsSpoiltUptoCard

/-- THE SECOND FORM's CARD OF 'starlinglaw08.BlobsGranted'. -/
def blobsGrantedUptoCard : Claim7 := { stood := { row := blobsGrantedUptoRow, standIns := [], harness := (true, "9ac3d14276d4346ed76782cf0da9cc86bee355d671e800a0104d340d8779fac6"), looks := true }, kinds := [], alts := [], laidByText := true, laidKinds := [.data], laidTests := true, laidLooks := .later }
def BlobsGrantedUptoCardSaid : Prop := Claim7.holds Tryz.pinned (.plain (OpenSpec.upto blobsGrantedSpec)) blobsGrantedUptoCard

/-- THE SECOND FORM's CARD OF 'starlinglaw08.BlobsHalf'. -/
def blobsHalfUptoCard : Claim7 := { stood := { row := blobsHalfUptoRow, standIns := [], harness := (true, "9ac3d14276d4346ed76782cf0da9cc86bee355d671e800a0104d340d8779fac6"), looks := true }, kinds := [], alts := [], laidByText := true, laidKinds := [.data], laidTests := true, laidLooks := .later }
def BlobsHalfUptoCardSaid : Prop := Claim7.holds Tryz.pinned (.plain (OpenSpec.upto blobsHalfSpec)) blobsHalfUptoCard

/-- THE SECOND FORM's CARD OF 'starlinglaw08.BlobsAgain'. -/
def blobsAgainUptoCard : Claim7 := { stood := { row := blobsAgainUptoRow, standIns := [], harness := (true, "9ac3d14276d4346ed76782cf0da9cc86bee355d671e800a0104d340d8779fac6"), looks := true }, kinds := [], alts := [], laidByText := true, laidKinds := [.data], laidTests := true, laidLooks := .later }
def BlobsAgainUptoCardSaid : Prop := Claim7.holds Tryz.pinned (.plain (OpenSpec.upto blobsAgainSpec)) blobsAgainUptoCard

/-- THE SECOND FORM's CARD OF 'starlinglaw08.BlobsShared'. -/
def blobsSharedUptoCard : Claim7 := { stood := { row := blobsSharedUptoRow, standIns := [], harness := (true, "9ac3d14276d4346ed76782cf0da9cc86bee355d671e800a0104d340d8779fac6"), looks := true }, kinds := [], alts := [], laidByText := true, laidKinds := [.data], laidTests := true, laidLooks := .later }
def BlobsSharedUptoCardSaid : Prop := Claim7.holds Tryz.pinned (.plain (OpenSpec.upto blobsSharedSpec)) blobsSharedUptoCard

/-- THE SECOND FORM's CARD OF 'starlinglaw08.BlobsWhole'. -/
def blobsWholeUptoCard : Claim7 := { stood := { row := blobsWholeUptoRow, standIns := [], harness := (true, "9ac3d14276d4346ed76782cf0da9cc86bee355d671e800a0104d340d8779fac6"), looks := true }, kinds := [], alts := [], laidByText := true, laidKinds := [.data], laidTests := true, laidLooks := .later }
def BlobsWholeUptoCardSaid : Prop := Claim7.holds Tryz.pinned (.plain (OpenSpec.upto blobsWholeSpec)) blobsWholeUptoCard

/-- THE SECOND FORM's CARD OF 'starlinglaw08.BlobsLasts'. -/
def blobsLastsUptoCard : Claim7 := { stood := { row := blobsLastsUptoRow, standIns := [], harness := (true, "9ac3d14276d4346ed76782cf0da9cc86bee355d671e800a0104d340d8779fac6"), looks := true }, kinds := [], alts := [], laidByText := true, laidKinds := [.data], laidTests := true, laidLooks := .later }
def BlobsLastsUptoCardSaid : Prop := Claim7.holds Tryz.pinned (.plain (OpenSpec.upto blobsLastsSpec)) blobsLastsUptoCard
end Rows
end Go.Proofs.YtpecmnaikjbanaaGreatDoor
