/-
  THE TIED CARD of TopPieces.
-/
import Derived.Test.YtlionahpheehaaaGreatDoorQTP15
import Derived.Test.YtlionahpheehaaaGreatDoorRows
import Derived.Test.YtlionahpheehaaaGreatDoorTie
import Derived.Test.YtlionahpheehaaaGreatDoorCards
import Derived.SevenTiedAt
namespace Go.Proofs.YtlionahpheehaaaGreatDoor.topPieces
open Go
theorem kw : Rows.topPiecesRow.wfByText (OpenSpec.ofChange Rows.topPiecesSpec) = true := by kernel_rfl
theorem kg : false = Rows.topPiecesRow.goesBy Tryz.pinned.checked.prog := by kernel_rfl
theorem kl : true = (Tryz.pinned.checked.prog).looks [] := by kernel_rfl
theorem card_holds : Rows.TopPiecesCardSaid :=
  Claim7.holds_tied_plain_at .later [] [.data] true (true, "34973db4f6345c4927e01ed67f82bbb5fbcb42d48be400041887a2936cdf131c") true
    proved (fun _ h => by cases h) kw (fun _ h => by cases h) topPieces_row_tie rfl ⟨rfl, rfl⟩ (by kernel_rfl) rfl
    (fun f fn hf S0 => by
      obtain rfl : f = 3 := Option.some.inj ((show Tryz.prog.funcNamed "starling/starlingtop.TopPieces" = some 3 by kernel_rfl).symm.trans hf) |>.symm
      obtain rfl : fn = Tryz.f3 := (Option.some.inj (Tryz.func3.symm.trans S0)).symm
      exact ⟨kl, fun j t ht => by
        rw [Tryz.params3] at ht
        have hm : t ∈ [22, 3, 23] := by simpa using Array.mem_of_getElem? ht
        have fH : ([22, 3, 23].all fun u => !Tryz.prog.wantsStandIn u) = true := by kernel_rfl
        exact (show Tryz.prog.wantsStandIn t = false by simpa using List.all_eq_true.1 fH t hm)⟩)
    kg
#print axioms card_holds
end Go.Proofs.YtlionahpheehaaaGreatDoor.topPieces
