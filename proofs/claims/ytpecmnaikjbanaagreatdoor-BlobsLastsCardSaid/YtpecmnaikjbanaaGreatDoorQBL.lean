/-
  THE TIED CARD of BlobsLasts.
-/
import Derived.Test.YtpecmnaikjbanaaGreatDoorQBL15
import Derived.Test.YtpecmnaikjbanaaGreatDoorRows
import Derived.Test.YtpecmnaikjbanaaGreatDoorTie
import Derived.Test.YtpecmnaikjbanaaGreatDoorCards
import Derived.SevenTiedAt
namespace Go.Proofs.YtpecmnaikjbanaaGreatDoor.blobsLasts
open Go
theorem card_holds : Rows.BlobsLastsCardSaid :=
  Claim7.holds_tied_plain_at .later [] [.data] true (true, "9ac3d14276d4346ed76782cf0da9cc86bee355d671e800a0104d340d8779fac6") true
    proved (fun _ h => by cases h) (by kernel_rfl) (fun _ h => by cases h) blobsLasts_row_tie rfl ⟨rfl, rfl⟩ (by kernel_rfl) rfl
    (fun f fn hf hfn => by
      obtain rfl : f = 9 := Option.some.inj ((show Tryz.prog.funcNamed "starling/starlinglaw08.BlobsLasts" = some 9 by kernel_rfl).symm.trans hf) |>.symm
      obtain rfl : fn = Tryz.f9 := (Option.some.inj (Tryz.func9.symm.trans hfn)).symm
      exact ⟨by kernel_rfl, fun j t ht => by
        rw [Tryz.params9] at ht
        have hm : t ∈ [48] := by simpa using Array.mem_of_getElem? ht
        have hall : ([48].all fun u => !Tryz.prog.wantsStandIn u) = true := by kernel_rfl
        exact (show Tryz.prog.wantsStandIn t = false by simpa using List.all_eq_true.1 hall t hm)⟩)
    (by kernel_rfl)
#print axioms card_holds
end Go.Proofs.YtpecmnaikjbanaaGreatDoor.blobsLasts
