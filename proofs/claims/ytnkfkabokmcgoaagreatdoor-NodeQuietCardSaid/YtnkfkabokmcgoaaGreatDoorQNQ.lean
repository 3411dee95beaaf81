/-
  THE TIED CARD of NodeQuiet.
-/
import Derived.Test.YtnkfkabokmcgoaaGreatDoorQNQ12
import Derived.Test.YtnkfkabokmcgoaaGreatDoorRows
import Derived.Test.YtnkfkabokmcgoaaGreatDoorTie
import Derived.Test.YtnkfkabokmcgoaaGreatDoorCards
import Derived.SevenTiedAt
namespace Go.Proofs.YtnkfkabokmcgoaaGreatDoor.nodeQuiet
open Go
theorem kw : Rows.nodeQuietRow.wfByText (OpenSpec.ofChange Rows.nodeQuietSpec) = true := by kernel_rfl
theorem kl : true = (Tryz.pinned.checked.prog).looks [] := by kernel_rfl
theorem card_holds : Rows.NodeQuietCardSaid :=
  Claim7.holds_tied_plain_at .later [] [.data, .data] true (true, "5d7f59e154908ceae206355e4f3dc3e43850f93e9e84f6069c1605922be7c47d") true
    proved (fun _ h => by cases h) kw (fun _ h => by cases h) nodeQuiet_row_tie rfl ⟨rfl, rfl⟩ (by kernel_rfl) rfl
    (fun f fn hf hfn => by
      obtain rfl : f = 3 := Option.some.inj ((show Tryz.prog.funcNamed "starling/starlinglaw20.NodeQuiet" = some 3 by kernel_rfl).symm.trans hf) |>.symm
      obtain rfl : fn = Tryz.f3 := (Option.some.inj (Tryz.func3.symm.trans hfn)).symm
      exact ⟨kl, fun j t ht => by
        rw [Tryz.params3] at ht
        have hm : t ∈ [22] := by simpa using Array.mem_of_getElem? ht
        have dX : ([22].all fun u => !Tryz.prog.wantsStandIn u) = true := by kernel_rfl
        exact (show Tryz.prog.wantsStandIn t = false by simpa using List.all_eq_true.1 dX t hm)⟩)
    kg
#print axioms card_holds
end Go.Proofs.YtnkfkabokmcgoaaGreatDoor.nodeQuiet
