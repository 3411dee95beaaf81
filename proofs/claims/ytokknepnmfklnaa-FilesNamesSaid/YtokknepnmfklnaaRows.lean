/-
  No cell of these rows narrows 'for every input' (looked for: loops, veiled, ifaces, maps, wideKeys, modest, calm, conditions, laid).
  DERIVED. THE GIVEN ROWS OF THIS SEAT. 7 by the template 'for every input the law returns true; each argument reads behind the call as it read before'; 0 by the template 'total and deterministic' (their statements: YtokknepnmfklnaaTotals.lean).
  GIVEN WITH THE SEED: the statements are not yours to turn. If you find one false, say at which input.
  Laid BY PROGRAM, IN A SANDBOX (cutbox-rows.mjs): the forced cells as the released guide's own fill.sh prints them over the translation b9f95ab2889e7744… (all of the seat's roots in one cut). By AI agents, Wed Nov 11 2026. No macro, syntax, notation, axiom, sorry.
-/
import Derived.Test.YtokknepnmfklnaaChecked
import GoSem.Claim
import GoSem.ClaimJoined
import GoSem.ClaimMapViews
import Derived.JoinedTies
import Derived.KernelRfl
namespace Go.Proofs.Ytokknepnmfklnaa
/- THE CELL 'sum', in the pinned program and in every row, IS THE sha256 OF THE DUMP (.gsa) THAT YtokknepnmfklnaaProg.lean LOADS. Nothing in Lean hashes anything: it is a label: what it is worth is what the hold of that sum in a sandbox is worth. -/
noncomputable def Try.pinned : Pinned := { name := "ytokknepnmfklnaa", sum := "b9f95ab2889e7744379b9add1c0acd1d43de60e0d29aeb2e7dff28f3c68ee443", checked := Try.checked }
namespace Rows
def none {H : Type} : Left H := { results := [], args := [] }

/-- 'starlinglaw06.FilesOwn': WHATEVER THE INPUT: true; the input reads as it did. -/
def filesOwnSpec : ChangeSpec := { name := "filesOwn", fn := fun _ => fun
  | [d1, d2] => { results := [.lit (.bool true)], args := [d1, d2] }
  | _ => none }
def filesOwnRow : OpenClaim := { program := "ytokknepnmfklnaa", sum := "b9f95ab2889e7744379b9add1c0acd1d43de60e0d29aeb2e7dff28f3c68ee443", func := "starling/starlinglaw06.FilesOwn", spec := "filesOwn", inPlace := ["maps.clone"], unfollowed := true, recurses := true, apart := false }
def FilesOwnSaid : Prop := filesOwnRow.holds Try.pinned (OpenSpec.ofChange filesOwnSpec)

/-- ITS FALSE NEIGHBOUR: 'it returns false'. Refute it at one input. -/
def filesOwnWrong : ChangeSpec := { name := "filesOwn", fn := fun _ => fun
  | [d1, d2] => { results := [.lit (.bool false)], args := [d1, d2] }
  | _ => none }
def FilesOwnWrongFalsely : Prop := filesOwnRow.holds Try.pinned (OpenSpec.ofChange filesOwnWrong)

/-- 'starlinglaw06.FilesGaps': WHATEVER THE INPUT: true; the input reads as it did. -/
def filesGapsSpec : ChangeSpec := { name := "filesGaps", fn := fun _ => fun
  | [d1, d2, d3] => { results := [.lit (.bool true)], args := [d1, d2, d3] }
  | _ => none }
def filesGapsRow : OpenClaim := { program := "ytokknepnmfklnaa", sum := "b9f95ab2889e7744379b9add1c0acd1d43de60e0d29aeb2e7dff28f3c68ee443", func := "starling/starlinglaw06.FilesGaps", spec := "filesGaps", inPlace := ["maps.clone"], unfollowed := true, recurses := true, apart := false }
def FilesGapsSaid : Prop := filesGapsRow.holds Try.pinned (OpenSpec.ofChange filesGapsSpec)

/-- ITS FALSE NEIGHBOUR: 'it returns false'. Refute it at one input. -/
def filesGapsWrong : ChangeSpec := { name := "filesGaps", fn := fun _ => fun
  | [d1, d2, d3] => { results := [.lit (.bool false)], args := [d1, d2, d3] }
  | _ => none }
def FilesGapsWrongFalsely : Prop := filesGapsRow.holds Try.pinned (OpenSpec.ofChange filesGapsWrong)

/-- 'starlinglaw06.FilesRoom': WHATEVER THE INPUT: true; the input reads as it did. -/
def filesRoomSpec : ChangeSpec := { name := "filesRoom", fn := fun _ => fun
  | [d1, d2] => { results := [.lit (.bool true)], args := [d1, d2] }
  | _ => none }
def filesRoomRow : OpenClaim := { program := "ytokknepnmfklnaa", sum := "b9f95ab2889e7744379b9add1c0acd1d43de60e0d29aeb2e7dff28f3c68ee443", func := "starling/starlinglaw06.FilesRoom", spec := "filesRoom", inPlace := ["maps.clone"], unfollowed := true, recurses := true, apart := false }
def FilesRoomSaid : Prop := filesRoomRow.holds Try.pinned (OpenSpec.ofChange filesRoomSpec)

/-- ITS FALSE NEIGHBOUR: 'it returns false'. Refute it at one input. -/
def filesRoomWrong : ChangeSpec := { name := "filesRoom", fn := fun _ => fun
  | [d1, d2] => { results := [.lit (.bool false)], args := [d1, d2] }
  | _ => none }
def FilesRoomWrongFalsely : Prop := filesRoomRow.holds Try.pinned (OpenSpec.ofChange filesRoomWrong)

/-- 'starlinglaw06.FilesWrites': WHATEVER THE INPUT: true; the input reads as it did. -/
def filesWritesSpec : ChangeSpec := { name := "filesWrites", fn := fun _ => fun
  | [d1, d2, d3] => { results := [.lit (.bool true)], args := [d1, d2, d3] }
  | _ => none }
def filesWritesRow : OpenClaim := { program := "ytokknepnmfklnaa", sum := "b9f95ab2889e7744379b9add1c0acd1d43de60e0d29aeb2e7dff28f3c68ee443", func := "starling/starlinglaw06.FilesWrites", spec := "filesWrites", inPlace := ["maps.clone"], unfollowed := true, recurses := true, apart := false }
def FilesWritesSaid : Prop := filesWritesRow.holds Try.pinned (OpenSpec.ofChange filesWritesSpec)

/-- ITS FALSE NEIGHBOUR: 'it returns false'. Refute it at one input. -/
def filesWritesWrong : ChangeSpec := { name := "filesWrites", fn := fun _ => fun
  | [d1, d2, d3] => { results := [.lit (.bool false)], args := [d1, d2, d3] }
  | _ => none }
def FilesWritesWrongFalsely : Prop := filesWritesRow.holds Try.pinned (OpenSpec.ofChange filesWritesWrong)

/-- 'starlinglaw06.FilesRenames': WHATEVER THE INPUT: true; the input reads as it did. -/
def filesRenamesSpec : ChangeSpec := { name := "filesRenames", fn := fun _ => fun
  | [d1, d2, d3] => { results := [.lit (.bool true)], args := [d1, d2, d3] }
  | _ => none }
def filesRenamesRow : OpenClaim := { program := "ytokknepnmfklnaa", sum := "b9f95ab2889e7744379b9add1c0acd1d43de60e0d29aeb2e7dff28f3c68ee443", func := "starling/starlinglaw06.FilesRenames", spec := "filesRenames", inPlace := ["maps.clone"], unfollowed := true, recurses := true, apart := false }
def FilesRenamesSaid : Prop := filesRenamesRow.holds Try.pinned (OpenSpec.ofChange filesRenamesSpec)

/-- ITS FALSE NEIGHBOUR: 'it returns false'. Refute it at one input. -/
def filesRenamesWrong : ChangeSpec := { name := "filesRenames", fn := fun _ => fun
  | [d1, d2, d3] => { results := [.lit (.bool false)], args := [d1, d2, d3] }
  | _ => none }
def FilesRenamesWrongFalsely : Prop := filesRenamesRow.holds Try.pinned (OpenSpec.ofChange filesRenamesWrong)

/-- 'starlinglaw06.FilesLasts': WHATEVER THE INPUT: true; the input reads as it did. -/
def filesLastsSpec : ChangeSpec := { name := "filesLasts", fn := fun _ => fun
  | [d1, d2, d3] => { results := [.lit (.bool true)], args := [d1, d2, d3] }
  | _ => none }
def filesLastsRow : OpenClaim := { program := "ytokknepnmfklnaa", sum := "b9f95ab2889e7744379b9add1c0acd1d43de60e0d29aeb2e7dff28f3c68ee443", func := "starling/starlinglaw06.FilesLasts", spec := "filesLasts", inPlace := ["maps.clone"], unfollowed := true, recurses := true, apart := false }
def FilesLastsSaid : Prop := filesLastsRow.holds Try.pinned (OpenSpec.ofChange filesLastsSpec)

/-- ITS FALSE NEIGHBOUR: 'it returns false'. Refute it at one input. -/
def filesLastsWrong : ChangeSpec := { name := "filesLasts", fn := fun _ => fun
  | [d1, d2, d3] => { results := [.lit (.bool false)], args := [d1, d2, d3] }
  | _ => none }
def FilesLastsWrongFalsely : Prop := filesLastsRow.holds Try.pinned (OpenSpec.ofChange filesLastsWrong)

/-- 'starlinglaw06.FilesNames': WHATEVER THE INPUT: true; the input reads as it did. -/
def filesNamesSpec : ChangeSpec := { name := "filesNames", fn := fun _ => fun
  | [d] => { results := [.lit (.bool true)], args := [d] }
  | _ => none }
def filesNamesRow : OpenClaim := { program := "ytokknepnmfklnaa", sum := "b9f95ab2889e7744379b9add1c0acd1d43de60e0d29aeb2e7dff28f3c68ee443", func := "starling/starlinglaw06.FilesNames", spec := "filesNames", inPlace := ["maps.clone"], unfollowed := true, recurses := true, apart := false }
def FilesNamesSaid : Prop := filesNamesRow.holds Try.pinned (OpenSpec.ofChange filesNamesSpec)

/-- ITS FALSE NEIGHBOUR: 'it returns false'. Refute it at one input. -/
def filesNamesWrong : ChangeSpec := { name := "filesNames", fn := fun _ => fun
  | [d] => { results := [.lit (.bool false)], args := [d] }
  | _ => none }
def FilesNamesWrongFalsely : Prop := filesNamesRow.holds Try.pinned (OpenSpec.ofChange filesNamesWrong)

/- THE SECOND FORM. 'bulk': how many values and letters a reading holds, each counted each time it is reached (what is shared counts as often as it is met; a slice's spare places count too). A statement '..UptoSaid' is the law's where the arguments, and the package variables that the reading takes, are together of bulk at most 1048576: NARROWER than '..Said'. Prove '..Said' where nothing that the law and all that it calls make is longer than what came in: it says more and counts as full. Else prove '..UptoSaid'. A law counts once. -/
mutual
def uptoBulk {H : Type} : DataW H → Nat
  | .lit (.string bytes) => bytes.length + 1
  | .lit _ => 1
  | .nil => 1
  | .ptr d => uptoBulk d + 1
  | .slice elems spare => uptoBulkAll elems + uptoBulkAll spare + 1
  | .agg parts => uptoBulkAll parts + 1
  | .iface _ d => uptoBulk d + 1
  | .map entries => uptoBulkEntries entries + 1
  | .held _ => 1
def uptoBulkAll {H : Type} : List (DataW H) → Nat
  | [] => 0
  | d :: r => uptoBulk d + uptoBulkAll r
def uptoBulkEntries {H : Type} : List (Lit × DataW H) → Nat
  | [] => 0
  | x :: r => uptoBulkEntry x + uptoBulkEntries r
def uptoBulkEntry {H : Type} : Lit × DataW H → Nat
  | (.string bytes, d) => bytes.length + uptoBulk d + 1
  | (_, d) => uptoBulk d + 1
 end
def uptoSmall : (H : Type) → List (DataW H) → Bool := fun _ ds => decide (uptoBulkAll ds ≤ 1048576)
def OpenSpec.upto (s : _root_.Go.ChangeSpec) : _root_.Go.OpenSpec := { _root_.Go.OpenSpec.ofChange s with cond := some uptoSmall }

/-- 'starlinglaw06.FilesOwn', WHERE WHAT IT READS IS OF BULK AT MOST 1048576: true; the input reads as it did. -/
def filesOwnUptoRow : OpenClaim := { program := "ytokknepnmfklnaa", sum := "b9f95ab2889e7744379b9add1c0acd1d43de60e0d29aeb2e7dff28f3c68ee443", func := "starling/starlinglaw06.FilesOwn", spec := "filesOwn", inPlace := ["maps.clone"], unfollowed := true, recurses := true, apart := false, narrowed := true }
def FilesOwnUptoSaid : Prop := filesOwnUptoRow.holds Try.pinned (OpenSpec.upto filesOwnSpec)

/-- 'starlinglaw06.FilesGaps', WHERE WHAT IT READS IS OF BULK AT MOST 1048576: true; the input reads as it did. -/
def filesGapsUptoRow : OpenClaim := { program := "ytokknepnmfklnaa", sum := "b9f95ab2889e7744379b9add1c0acd1d43de60e0d29aeb2e7dff28f3c68ee443", func := "starling/starlinglaw06.FilesGaps", spec := "filesGaps", inPlace := ["maps.clone"], unfollowed := true, recurses := true, apart := false, narrowed := true }
def FilesGapsUptoSaid : Prop := filesGapsUptoRow.holds Try.pinned (OpenSpec.upto filesGapsSpec)

/-- 'starlinglaw06.FilesRoom', WHERE WHAT IT READS IS OF BULK AT MOST 1048576: true; the input reads as it did. -/
def filesRoomUptoRow : OpenClaim := { program := "ytokknepnmfklnaa", sum := "b9f95ab2889e7744379b9add1c0acd1d43de60e0d29aeb2e7dff28f3c68ee443", func := "starling/starlinglaw06.FilesRoom", spec := "filesRoom", inPlace := ["maps.clone"], unfollowed := true, recurses := true, apart := false, narrowed := true }
def FilesRoomUptoSaid : Prop := filesRoomUptoRow.holds Try.pinned (OpenSpec.upto filesRoomSpec)

/-- 'starlinglaw06.FilesWrites', WHERE WHAT IT READS IS OF BULK AT MOST 1048576: true; the input reads as it did. -/
def filesWritesUptoRow : OpenClaim := { program := "ytokknepnmfklnaa", sum := "b9f95ab2889e7744379b9add1c0acd1d43de60e0d29aeb2e7dff28f3c68ee443", func := "starling/starlinglaw06.FilesWrites", spec := "filesWrites", inPlace := ["maps.clone"], unfollowed := true, recurses := true, apart := false, narrowed := true }
def FilesWritesUptoSaid : Prop := filesWritesUptoRow.holds Try.pinned (OpenSpec.upto filesWritesSpec)

/-- 'starlinglaw06.FilesRenames', WHERE WHAT IT READS IS OF BULK AT MOST 1048576: true; the input reads as it did. -/
def filesRenamesUptoRow : OpenClaim := { program := "ytokknepnmfklnaa", sum := "b9f95ab2889e7744379b9add1c0acd1d43de60e0d29aeb2e7dff28f3c68ee443", func := "starling/starlinglaw06.FilesRenames", spec := "filesRenames", inPlace := ["maps.clone"], unfollowed := true, recurses := true, apart := false, narrowed := true }
def FilesRenamesUptoSaid : Prop := filesRenamesUptoRow.holds Try.pinned (OpenSpec.upto filesRenamesSpec)

/-- 'starlinglaw06.FilesLasts', WHERE WHAT IT READS IS OF BULK AT MOST 1048576: true; the input reads as it did. -/
def filesLastsUptoRow : OpenClaim := { program := "ytokknepnmfklnaa", sum := "b9f95ab2889e7744379b9add1c0acd1d43de60e0d29aeb2e7dff28f3c68ee443", func := "starling/starlinglaw06.FilesLasts", spec := "filesLasts", inPlace := ["maps.clone"], unfollowed := true, recurses := true, apart := false, narrowed := true }
def FilesLastsUptoSaid : Prop := filesLastsUptoRow.holds Try.pinned (OpenSpec.upto filesLastsSpec)

/-- 'starlinglaw06.FilesNames', WHERE WHAT IT READS IS OF BULK AT MOST 1048576: true; the input reads as it did. -/
def filesNamesUptoRow : OpenClaim := { program := "ytokknepnmfklnaa", sum := "b9f95ab2889e7744379b9add1c0acd1d43de60e0d29aeb2e7dff28f3c68ee443", func := "starling/starlinglaw06.FilesNames", spec := "filesNames", inPlace := ["maps.clone"], unfollowed := true, recurses := true, apart := false, narrowed := true }
def FilesNamesUptoSaid : Prop := filesNamesUptoRow.holds Try.pinned (OpenSpec.upto filesNamesSpec)

end Rows
end Go.Proofs.Ytokknepnmfklnaa
