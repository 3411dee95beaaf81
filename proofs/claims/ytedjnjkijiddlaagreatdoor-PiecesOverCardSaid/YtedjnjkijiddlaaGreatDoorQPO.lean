/-
  THE TIED CARD of PiecesOver.
-/
import Derived.Test.YtedjnjkijiddlaaGreatDoorQPO15
import Derived.Test.YtedjnjkijiddlaaGreatDoorRows
import Derived.Test.YtedjnjkijiddlaaGreatDoorTie
import Derived.Test.YtedjnjkijiddlaaGreatDoorCards
import Derived.SevenTiedAt
namespace Go.Proofs.YtedjnjkijiddlaaGreatDoor.piecesOver
open Go
theorem kw : Rows.piecesOverRow.wfByText (OpenSpec.ofChange Rows.piecesOverSpec) = true := by kernel_rfl
theorem kg : false = Rows.piecesOverRow.goesBy Tryz.pinned.checked.prog := by kernel_rfl
theorem kl : true = (Tryz.pinned.checked.prog).looks [] := by kernel_rfl
theorem card_holds : Rows.PiecesOverCardSaid :=
  Claim7.holds_tied_plain_at .later [] [.data] true (true, "ce16074507b94a1cfee818c0dab2f745f4743c4992cdf9a69604850a8a087226") true
    proved (fun _ h => by cases h) kw (fun _ h => by cases h) piecesOver_row_tie rfl ⟨rfl, rfl⟩ (by kernel_rfl) rfl
    (fun f fn hf KM => by
      obtain rfl : f = 3 := Option.some.inj ((show Tryz.prog.funcNamed "starling/starlinglaw09.PiecesOver" = some 3 by kernel_rfl).symm.trans hf) |>.symm
      obtain rfl : fn = Tryz.f3 := (Option.some.inj (Tryz.func3.symm.trans KM)).symm
      exact ⟨kl, fun j t ht => by
        rw [Tryz.params3] at ht
        have hm : t ∈ [22, 3, 4] := by simpa using Array.mem_of_getElem? ht
        have eZ : ([22, 3, 4].all fun u => !Tryz.prog.wantsStandIn u) = true := by kernel_rfl
        exact (show Tryz.prog.wantsStandIn t = false by simpa using List.all_eq_true.1 eZ t hm)⟩)
    kg
#print axioms card_holds
end Go.Proofs.YtedjnjkijiddlaaGreatDoor.piecesOver
