/-
  THE TIED CARD of BlobsWhole.
-/
import Derived.Test.YtpecmnaikjbanaaGreatDoorQBW15
import Derived.Test.YtpecmnaikjbanaaGreatDoorRows
import Derived.Test.YtpecmnaikjbanaaGreatDoorTie
import Derived.Test.YtpecmnaikjbanaaGreatDoorCards
import Derived.SevenTiedAt
namespace Go.Proofs.YtpecmnaikjbanaaGreatDoor.blobsWhole
open Go
theorem card_holds : Rows.BlobsWholeCardSaid :=
  Claim7.holds_tied_plain_at .later [] [.data] true (true, "9ac3d14276d4346ed76782cf0da9cc86bee355d671e800a0104d340d8779fac6") true
    proved (fun _ h => by cases h) (by kernel_rfl) (fun _ h => by cases h) blobsWhole_row_tie rfl ⟨rfl, rfl⟩ (by kernel_rfl) rfl
    (fun f fn hf hfn => by
      obtain rfl : f = 8 := Option.some.inj ((show Tryz.prog.funcNamed "starling/starlinglaw08.BlobsWhole" = some 8 by kernel_rfl).symm.trans hf) |>.symm
      obtain rfl : fn = Tryz.f8 := (Option.some.inj (Tryz.func8.symm.trans hfn)).symm
      exact ⟨by kernel_rfl, fun j t ht => by
        rw [Tryz.params8] at ht
        have hm : t ∈ [22, 3, 70] := by simpa using Array.mem_of_getElem? ht
        have hall : ([22, 3, 70].all fun u => !Tryz.prog.wantsStandIn u) = true := by kernel_rfl
        exact (show Tryz.prog.wantsStandIn t = false by simpa using List.all_eq_true.1 hall t hm)⟩)
    (by kernel_rfl)
#print axioms card_holds
end Go.Proofs.YtpecmnaikjbanaaGreatDoor.blobsWhole
