/-
  THE TIED CARD of PiecesTwice.
-/
import Derived.Test.YtdigdgohdpeebaaGreatDoorQPW15
import Derived.Test.YtdigdgohdpeebaaGreatDoorRows
import Derived.Test.YtdigdgohdpeebaaGreatDoorTie
import Derived.Test.YtdigdgohdpeebaaGreatDoorCards
import Derived.SevenTiedAt
namespace Go.Proofs.YtdigdgohdpeebaaGreatDoor.piecesTwice
open Go
theorem kw : Rows.piecesTwiceRow.wfByText (OpenSpec.ofChange Rows.piecesTwiceSpec) = true := by kernel_rfl
theorem kg : false = Rows.piecesTwiceRow.goesBy Tryz.pinned.checked.prog := by kernel_rfl
theorem kl : true = (Tryz.pinned.checked.prog).looks [] := by kernel_rfl
theorem card_holds : Rows.PiecesTwiceCardSaid :=
  Claim7.holds_tied_plain_at .later [] [.data] true (true, "4f616eaa78bad3d0122bbb3bee8061d06d5d6274c5e34fe7c01d9b7449856f75") true
    proved (fun _ h => by cases h) kw (fun _ h => by cases h) piecesTwice_row_tie rfl ⟨rfl, rfl⟩ (by kernel_rfl) rfl
    (fun f fn hf RI => by
      obtain rfl : f = 3 := Option.some.inj ((show Tryz.prog.funcNamed "starling/starlinglaw09.PiecesTwice" = some 3 by kernel_rfl).symm.trans hf) |>.symm
      obtain rfl : fn = Tryz.f3 := (Option.some.inj (Tryz.func3.symm.trans RI)).symm
      exact ⟨kl, fun j t ht => by
        rw [Tryz.params3] at ht
        have hm : t ∈ [22] := by simpa using Array.mem_of_getElem? ht
        have gp : ([22].all fun u => !Tryz.prog.wantsStandIn u) = true := by kernel_rfl
        exact (show Tryz.prog.wantsStandIn t = false by simpa using List.all_eq_true.1 gp t hm)⟩)
    kg
#print axioms card_holds
end Go.Proofs.YtdigdgohdpeebaaGreatDoor.piecesTwice
