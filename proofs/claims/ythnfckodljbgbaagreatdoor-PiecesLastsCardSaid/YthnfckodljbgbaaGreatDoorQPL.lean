/-
  THE TIED CARD of PiecesLasts.
-/
import Derived.Test.YthnfckodljbgbaaGreatDoorQPL15
import Derived.Test.YthnfckodljbgbaaGreatDoorRows
import Derived.Test.YthnfckodljbgbaaGreatDoorTie
import Derived.Test.YthnfckodljbgbaaGreatDoorCards
import Derived.SevenTiedAt
namespace Go.Proofs.YthnfckodljbgbaaGreatDoor.piecesLasts
open Go
theorem kw : Rows.piecesLastsRow.wfByText (OpenSpec.ofChange Rows.piecesLastsSpec) = true := by kernel_rfl
theorem kg : false = Rows.piecesLastsRow.goesBy Tryz.pinned.checked.prog := by kernel_rfl
theorem kl : true = (Tryz.pinned.checked.prog).looks [] := by kernel_rfl
theorem card_holds : Rows.PiecesLastsCardSaid :=
  Claim7.holds_tied_plain_at .later [] [.data] true (true, "508fff76a6aa1b3431d8703a985ffab6f8aa49d917e7e732019af4f4eb278aa7") true
    proved (fun _ h => by cases h) kw (fun _ h => by cases h) piecesLasts_row_tie rfl ⟨rfl, rfl⟩ (by kernel_rfl) rfl
    (fun f fn hf TZ => by
      obtain rfl : f = 3 := Option.some.inj ((show Tryz.prog.funcNamed "starling/starlinglaw09.PiecesLasts" = some 3 by kernel_rfl).symm.trans hf) |>.symm
      obtain rfl : fn = Tryz.f3 := (Option.some.inj (Tryz.func3.symm.trans TZ)).symm
      exact ⟨kl, fun j t ht => by
        rw [Tryz.params3] at ht
        have hm : t ∈ [22] := by simpa using Array.mem_of_getElem? ht
        have iy : ([22].all fun u => !Tryz.prog.wantsStandIn u) = true := by kernel_rfl
        exact (show Tryz.prog.wantsStandIn t = false by simpa using List.all_eq_true.1 iy t hm)⟩)
    kg
#print axioms card_holds
end Go.Proofs.YthnfckodljbgbaaGreatDoor.piecesLasts
