/-
  THE TIED CARD of NodeFails.
-/
import Derived.Test.YtlcoaflddajjcaaGreatDoorQNF14
import Derived.Test.YtlcoaflddajjcaaGreatDoorRows
import Derived.Test.YtlcoaflddajjcaaGreatDoorTie
import Derived.Test.YtlcoaflddajjcaaGreatDoorCards
import Derived.SevenTiedAt
namespace Go.Proofs.YtlcoaflddajjcaaGreatDoor.nodeFails
open Go
theorem kw : Rows.nodeFailsRow.wfByText (OpenSpec.ofChange Rows.nodeFailsSpec) = true := by kernel_rfl
theorem kl : true = (Tryz.pinned.checked.prog).looks [] := by kernel_rfl
theorem card_holds : Rows.NodeFailsCardSaid :=
  Claim7.holds_tied_plain_at .later [] [.data, .data] true (true, "ed40fe24e27f1a8d016b51084719234f4f9abb12268a14d21452b8ac5516e751") true
    proved (fun _ h => by cases h) kw (fun _ h => by cases h) nodeFails_row_tie rfl ⟨rfl, rfl⟩ (by kernel_rfl) rfl
    (fun f fn hf hfn => by
      obtain rfl : f = 3 := Option.some.inj ((show Tryz.prog.funcNamed "starling/starlinglaw20.NodeFails" = some 3 by kernel_rfl).symm.trans hf) |>.symm
      obtain rfl : fn = Tryz.f3 := (Option.some.inj (Tryz.func3.symm.trans hfn)).symm
      exact ⟨kl, fun j t ht => by
        rw [Tryz.params3] at ht
        have hm : t ∈ [22, 3, 4] := by simpa using Array.mem_of_getElem? ht
        have fI : ([22, 3, 4].all fun u => !Tryz.prog.wantsStandIn u) = true := by kernel_rfl
        exact (show Tryz.prog.wantsStandIn t = false by simpa using List.all_eq_true.1 fI t hm)⟩)
    kg
#print axioms card_holds
end Go.Proofs.YtlcoaflddajjcaaGreatDoor.nodeFails
