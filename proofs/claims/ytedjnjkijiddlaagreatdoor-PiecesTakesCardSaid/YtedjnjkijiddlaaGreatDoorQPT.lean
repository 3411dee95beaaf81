/-
  THE TIED CARD of PiecesTakes.
-/
import Derived.Test.YtedjnjkijiddlaaGreatDoorQPT15
import Derived.Test.YtedjnjkijiddlaaGreatDoorRows
import Derived.Test.YtedjnjkijiddlaaGreatDoorTie
import Derived.Test.YtedjnjkijiddlaaGreatDoorCards
import Derived.SevenTiedAt
namespace Go.Proofs.YtedjnjkijiddlaaGreatDoor.piecesTakes
open Go
theorem kw : Rows.piecesTakesRow.wfByText (OpenSpec.ofChange Rows.piecesTakesSpec) = true := by kernel_rfl
theorem kg : false = Rows.piecesTakesRow.goesBy Tryz.pinned.checked.prog := by kernel_rfl
theorem kl : true = (Tryz.pinned.checked.prog).looks [] := by kernel_rfl
theorem card_holds : Rows.PiecesTakesCardSaid :=
  Claim7.holds_tied_plain_at .later [] [.data] true (true, "ce16074507b94a1cfee818c0dab2f745f4743c4992cdf9a69604850a8a087226") true
    proved (fun _ h => by cases h) kw (fun _ h => by cases h) piecesTakes_row_tie rfl ⟨rfl, rfl⟩ (by kernel_rfl) rfl
    (fun f fn hf RO => by
      obtain rfl : f = 4 := Option.some.inj ((show Tryz.prog.funcNamed "starling/starlinglaw09.PiecesTakes" = some 4 by kernel_rfl).symm.trans hf) |>.symm
      obtain rfl : fn = Tryz.f4 := (Option.some.inj (Tryz.func4.symm.trans RO)).symm
      exact ⟨kl, fun j t ht => by
        rw [Tryz.params4] at ht
        have hm : t ∈ [22, 3, 52] := by simpa using Array.mem_of_getElem? ht
        have fH : ([22, 3, 52].all fun u => !Tryz.prog.wantsStandIn u) = true := by kernel_rfl
        exact (show Tryz.prog.wantsStandIn t = false by simpa using List.all_eq_true.1 fH t hm)⟩)
    kg
#print axioms card_holds
end Go.Proofs.YtedjnjkijiddlaaGreatDoor.piecesTakes
