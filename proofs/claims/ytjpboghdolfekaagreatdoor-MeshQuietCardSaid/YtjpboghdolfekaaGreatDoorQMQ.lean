/-
  THE TIED CARD of MeshQuiet.
-/
import Derived.Test.YtjpboghdolfekaaGreatDoorQMQ14
import Derived.Test.YtjpboghdolfekaaGreatDoorRows
import Derived.Test.YtjpboghdolfekaaGreatDoorTie
import Derived.Test.YtjpboghdolfekaaGreatDoorCards
import Derived.SevenTiedAt
namespace Go.Proofs.YtjpboghdolfekaaGreatDoor.meshQuiet
open Go
theorem kw : Rows.meshQuietRow.wfByText (OpenSpec.ofChange Rows.meshQuietSpec) = true := by kernel_rfl
theorem kl : true = (Tryz.pinned.checked.prog).looks [] := by kernel_rfl
theorem card_holds : Rows.MeshQuietCardSaid :=
  Claim7.holds_tied_plain_at .later [] [.data, .data] true (true, "a83b16879b968e56eda78452f763fd10808e28d325e503245b8146288bd479ce") true
    proved (fun _ h => by cases h) kw (fun _ h => by cases h) meshQuiet_row_tie rfl ⟨rfl, rfl⟩ (by kernel_rfl) rfl
    (fun f fn hf hfn => by
      obtain rfl : f = 3 := Option.some.inj ((show Tryz.prog.funcNamed "starling/starlinglaw22.MeshQuiet" = some 3 by kernel_rfl).symm.trans hf) |>.symm
      obtain rfl : fn = Tryz.f3 := (Option.some.inj (Tryz.func3.symm.trans hfn)).symm
      exact ⟨kl, fun j t ht => by
        rw [Tryz.params3] at ht
        have hm : t ∈ [3, 22] := by simpa using Array.mem_of_getElem? ht
        have eY : ([3, 22].all fun u => !Tryz.prog.wantsStandIn u) = true := by kernel_rfl
        exact (show Tryz.prog.wantsStandIn t = false by simpa using List.all_eq_true.1 eY t hm)⟩)
    kg
#print axioms card_holds
end Go.Proofs.YtjpboghdolfekaaGreatDoor.meshQuiet
