/-
  THE TIED CARD of PiecesHas.
-/
import Derived.Test.YthjbidjmgbjkiaaGreatDoorQPH15
import Derived.Test.YthjbidjmgbjkiaaGreatDoorRows
import Derived.Test.YthjbidjmgbjkiaaGreatDoorTie
import Derived.Test.YthjbidjmgbjkiaaGreatDoorCards
import Derived.SevenTiedAt
namespace Go.Proofs.YthjbidjmgbjkiaaGreatDoor.piecesHas
open Go
theorem kw : Rows.piecesHasRow.wfByText (OpenSpec.ofChange Rows.piecesHasSpec) = true := by kernel_rfl
theorem kg : false = Rows.piecesHasRow.goesBy Tryz.pinned.checked.prog := by kernel_rfl
theorem kl : true = (Tryz.pinned.checked.prog).looks [] := by kernel_rfl
theorem card_holds : Rows.PiecesHasCardSaid :=
  Claim7.holds_tied_plain_at .later [] [.data] true (true, "1e1b28fbe8ed8b6052afdf442b07a74db903cb7f1c2bdc1fd2983d509baae171") true
    proved (fun _ h => by cases h) kw (fun _ h => by cases h) piecesHas_row_tie rfl ⟨rfl, rfl⟩ (by kernel_rfl) rfl
    (fun f fn hf Xm => by
      obtain rfl : f = 3 := Option.some.inj ((show Tryz.prog.funcNamed "starling/starlinglaw09.PiecesHas" = some 3 by kernel_rfl).symm.trans hf) |>.symm
      obtain rfl : fn = Tryz.f3 := (Option.some.inj (Tryz.func3.symm.trans Xm)).symm
      exact ⟨kl, fun j t ht => by
        rw [Tryz.params3] at ht
        have hm : t ∈ [22] := by simpa using Array.mem_of_getElem? ht
        have fO : ([22].all fun u => !Tryz.prog.wantsStandIn u) = true := by kernel_rfl
        exact (show Tryz.prog.wantsStandIn t = false by simpa using List.all_eq_true.1 fO t hm)⟩)
    kg
#print axioms card_holds
end Go.Proofs.YthjbidjmgbjkiaaGreatDoor.piecesHas
