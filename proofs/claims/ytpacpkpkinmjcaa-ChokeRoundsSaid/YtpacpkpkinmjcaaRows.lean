/-
  No cell of these rows narrows 'for every input' (looked for: loops, veiled, ifaces, maps, wideKeys, modest, calm, conditions, laid).
  DERIVED. THE GIVEN ROWS OF THIS SEAT. 6 by the template 'for every input the law returns true; each argument reads behind the call as it read before'; 0 by the template 'total and deterministic' (their statements: YtpacpkpkinmjcaaTotals.lean).
  GIVEN WITH THE SEED: the statements are not yours to turn. If you find one false, say at which input.
  Laid BY PROGRAM, IN A SANDBOX (cutbox-rows.mjs): the forced cells as the released guide's own fill.sh prints them over the translation 470c9ed339c3efe1… (all of the seat's roots in one cut). By AI agents, Wed Nov 11 2026. No macro, syntax, notation, axiom, sorry.
-/
import Derived.Test.YtpacpkpkinmjcaaChecked
import GoSem.Claim
import GoSem.ClaimJoined
import GoSem.ClaimMapViews
import Derived.JoinedTies
import Derived.KernelRfl
namespace Go.Proofs.Ytpacpkpkinmjcaa
/- THE CELL 'sum', in the pinned program and in every row, IS THE sha256 OF THE DUMP (.gsa) THAT YtpacpkpkinmjcaaProg.lean LOADS. Nothing in Lean hashes anything: it is a label: what it is worth is what the hold of that sum in a sandbox is worth. -/
noncomputable def Try.pinned : Pinned := { name := "ytpacpkpkinmjcaa", sum := "470c9ed339c3efe1c77c73fdd4239e9793feb402f46ab08d2314c06d06eeeb9a", checked := Try.checked }
namespace Rows
def none {H : Type} : Left H := { results := [], args := [] }

/-- 'starlinglaw14.ChokeChooses': WHATEVER THE INPUT: true; the input reads as it did. -/
def chokeChoosesSpec : ChangeSpec := { name := "chokeChooses", fn := fun _ => fun
  | [d1, d2, d3] => { results := [.lit (.bool true)], args := [d1, d2, d3] }
  | _ => none }
def chokeChoosesRow : OpenClaim := { program := "ytpacpkpkinmjcaa", sum := "470c9ed339c3efe1c77c73fdd4239e9793feb402f46ab08d2314c06d06eeeb9a", func := "starling/starlinglaw14.ChokeChooses", spec := "chokeChooses", unfollowed := true, recurses := true, apart := false }
def ChokeChoosesSaid : Prop := chokeChoosesRow.holds Try.pinned (OpenSpec.ofChange chokeChoosesSpec)

/-- ITS FALSE NEIGHBOUR: 'it returns false'. Refute it at one input. -/
def chokeChoosesWrong : ChangeSpec := { name := "chokeChooses", fn := fun _ => fun
  | [d1, d2, d3] => { results := [.lit (.bool false)], args := [d1, d2, d3] }
  | _ => none }
def ChokeChoosesWrongFalsely : Prop := chokeChoosesRow.holds Try.pinned (OpenSpec.ofChange chokeChoosesWrong)

/-- 'starlinglaw14.ChokeFair': WHATEVER THE INPUT: true; the input reads as it did. -/
def chokeFairSpec : ChangeSpec := { name := "chokeFair", fn := fun _ => fun
  | [d1, d2, d3] => { results := [.lit (.bool true)], args := [d1, d2, d3] }
  | _ => none }
def chokeFairRow : OpenClaim := { program := "ytpacpkpkinmjcaa", sum := "470c9ed339c3efe1c77c73fdd4239e9793feb402f46ab08d2314c06d06eeeb9a", func := "starling/starlinglaw14.ChokeFair", spec := "chokeFair", unfollowed := true, recurses := true, apart := false }
def ChokeFairSaid : Prop := chokeFairRow.holds Try.pinned (OpenSpec.ofChange chokeFairSpec)

/-- ITS FALSE NEIGHBOUR: 'it returns false'. Refute it at one input. -/
def chokeFairWrong : ChangeSpec := { name := "chokeFair", fn := fun _ => fun
  | [d1, d2, d3] => { results := [.lit (.bool false)], args := [d1, d2, d3] }
  | _ => none }
def ChokeFairWrongFalsely : Prop := chokeFairRow.holds Try.pinned (OpenSpec.ofChange chokeFairWrong)

/-- 'starlinglaw14.ChokeTurned': WHATEVER THE INPUT: true; the input reads as it did. -/
def chokeTurnedSpec : ChangeSpec := { name := "chokeTurned", fn := fun _ => fun
  | [d1, d2, d3] => { results := [.lit (.bool true)], args := [d1, d2, d3] }
  | _ => none }
def chokeTurnedRow : OpenClaim := { program := "ytpacpkpkinmjcaa", sum := "470c9ed339c3efe1c77c73fdd4239e9793feb402f46ab08d2314c06d06eeeb9a", func := "starling/starlinglaw14.ChokeTurned", spec := "chokeTurned", unfollowed := true, recurses := true, apart := false }
def ChokeTurnedSaid : Prop := chokeTurnedRow.holds Try.pinned (OpenSpec.ofChange chokeTurnedSpec)

/-- ITS FALSE NEIGHBOUR: 'it returns false'. Refute it at one input. -/
def chokeTurnedWrong : ChangeSpec := { name := "chokeTurned", fn := fun _ => fun
  | [d1, d2, d3] => { results := [.lit (.bool false)], args := [d1, d2, d3] }
  | _ => none }
def ChokeTurnedWrongFalsely : Prop := chokeTurnedRow.holds Try.pinned (OpenSpec.ofChange chokeTurnedWrong)

/-- 'starlinglaw14.ChokeRounds': WHATEVER THE INPUT: true; the input reads as it did. -/
def chokeRoundsSpec : ChangeSpec := { name := "chokeRounds", fn := fun _ => fun
  | [d1, d2, d3] => { results := [.lit (.bool true)], args := [d1, d2, d3] }
  | _ => none }
def chokeRoundsRow : OpenClaim := { program := "ytpacpkpkinmjcaa", sum := "470c9ed339c3efe1c77c73fdd4239e9793feb402f46ab08d2314c06d06eeeb9a", func := "starling/starlinglaw14.ChokeRounds", spec := "chokeRounds", unfollowed := true, recurses := true, apart := false }
def ChokeRoundsSaid : Prop := chokeRoundsRow.holds Try.pinned (OpenSpec.ofChange chokeRoundsSpec)

/-- ITS FALSE NEIGHBOUR: 'it returns false'. Refute it at one input. -/
def chokeRoundsWrong : ChangeSpec := { name := "chokeRounds", fn := fun _ => fun
  | [d1, d2, d3] => { results := [.lit (.bool false)], args := [d1, d2, d3] }
  | _ => none }
def ChokeRoundsWrongFalsely : Prop := chokeRoundsRow.holds Try.pinned (OpenSpec.ofChange chokeRoundsWrong)

/-- 'starlinglaw14.ChokeTurns': WHATEVER THE INPUT: true; the input reads as it did. -/
def chokeTurnsSpec : ChangeSpec := { name := "chokeTurns", fn := fun _ => fun
  | [d1, d2, d3] => { results := [.lit (.bool true)], args := [d1, d2, d3] }
  | _ => none }
def chokeTurnsRow : OpenClaim := { program := "ytpacpkpkinmjcaa", sum := "470c9ed339c3efe1c77c73fdd4239e9793feb402f46ab08d2314c06d06eeeb9a", func := "starling/starlinglaw14.ChokeTurns", spec := "chokeTurns", unfollowed := true, recurses := true, apart := false }
def ChokeTurnsSaid : Prop := chokeTurnsRow.holds Try.pinned (OpenSpec.ofChange chokeTurnsSpec)

/-- ITS FALSE NEIGHBOUR: 'it returns false'. Refute it at one input. -/
def chokeTurnsWrong : ChangeSpec := { name := "chokeTurns", fn := fun _ => fun
  | [d1, d2, d3] => { results := [.lit (.bool false)], args := [d1, d2, d3] }
  | _ => none }
def ChokeTurnsWrongFalsely : Prop := chokeTurnsRow.holds Try.pinned (OpenSpec.ofChange chokeTurnsWrong)

/-- 'starlinglaw14.ChokeStays': WHATEVER THE INPUT: true; the input reads as it did. -/
def chokeStaysSpec : ChangeSpec := { name := "chokeStays", fn := fun _ => fun
  | [d1, d2, d3] => { results := [.lit (.bool true)], args := [d1, d2, d3] }
  | _ => none }
def chokeStaysRow : OpenClaim := { program := "ytpacpkpkinmjcaa", sum := "470c9ed339c3efe1c77c73fdd4239e9793feb402f46ab08d2314c06d06eeeb9a", func := "starling/starlinglaw14.ChokeStays", spec := "chokeStays", unfollowed := true, recurses := true, apart := false }
def ChokeStaysSaid : Prop := chokeStaysRow.holds Try.pinned (OpenSpec.ofChange chokeStaysSpec)

/-- ITS FALSE NEIGHBOUR: 'it returns false'. Refute it at one input. -/
def chokeStaysWrong : ChangeSpec := { name := "chokeStays", fn := fun _ => fun
  | [d1, d2, d3] => { results := [.lit (.bool false)], args := [d1, d2, d3] }
  | _ => none }
def ChokeStaysWrongFalsely : Prop := chokeStaysRow.holds Try.pinned (OpenSpec.ofChange chokeStaysWrong)

/- THE SECOND FORM. 'bulk': how many values and letters a reading holds, each counted each time it is reached (what is shared counts as often as it is met; a slice's spare places count too). A statement '..UptoSaid' is the law's where the arguments, and the package variables that the reading takes, are together of bulk at most 1048576: NARROWER than '..Said'. Prove '..Said' where nothing that the law and all that it calls make is longer than what came in: it says more and counts as full. Else prove '..UptoSaid'. A law counts once. -/
mutual
def uptoBulk {H : Type} : DataW H → Nat
  | .lit (.string bytes) => bytes.length + 1
  | .lit _ => 1
  | .nil => 1
  | .ptr d => uptoBulk d + 1
  | .slice elems spare => uptoBulkAll elems + uptoBulkAll spare + 1
  | .agg parts => uptoBulkAll parts + 1
  | .iface _ d => uptoBulk d + 1
  | .map entries => uptoBulkEntries entries + 1
  | .held _ => 1
def uptoBulkAll {H : Type} : List (DataW H) → Nat
  | [] => 0
  | d :: r => uptoBulk d + uptoBulkAll r
def uptoBulkEntries {H : Type} : List (Lit × DataW H) → Nat
  | [] => 0
  | x :: r => uptoBulkEntry x + uptoBulkEntries r
def uptoBulkEntry {H : Type} : Lit × DataW H → Nat
  | (.string bytes, d) => bytes.length + uptoBulk d + 1
  | (_, d) => uptoBulk d + 1
 end
def uptoSmall : (H : Type) → List (DataW H) → Bool := fun _ ds => decide (uptoBulkAll ds ≤ 1048576)
def OpenSpec.upto (s : _root_.Go.ChangeSpec) : _root_.Go.OpenSpec := { _root_.Go.OpenSpec.ofChange s with cond := some uptoSmall }

/-- 'starlinglaw14.ChokeChooses', WHERE WHAT IT READS IS OF BULK AT MOST 1048576: true; the input reads as it did. -/
def chokeChoosesUptoRow : OpenClaim := { program := "ytpacpkpkinmjcaa", sum := "470c9ed339c3efe1c77c73fdd4239e9793feb402f46ab08d2314c06d06eeeb9a", func := "starling/starlinglaw14.ChokeChooses", spec := "chokeChooses", unfollowed := true, recurses := true, apart := false, narrowed := true }
def ChokeChoosesUptoSaid : Prop := chokeChoosesUptoRow.holds Try.pinned (OpenSpec.upto chokeChoosesSpec)

/-- 'starlinglaw14.ChokeFair', WHERE WHAT IT READS IS OF BULK AT MOST 1048576: true; the input reads as it did. -/
def chokeFairUptoRow : OpenClaim := { program := "ytpacpkpkinmjcaa", sum := "470c9ed339c3efe1c77c73fdd4239e9793feb402f46ab08d2314c06d06eeeb9a", func := "starling/starlinglaw14.ChokeFair", spec := "chokeFair", unfollowed := true, recurses := true, apart := false, narrowed := true }
def ChokeFairUptoSaid : Prop := chokeFairUptoRow.holds Try.pinned (OpenSpec.upto chokeFairSpec)

/-- 'starlinglaw14.ChokeTurned', WHERE WHAT IT READS IS OF BULK AT MOST 1048576: true; the input reads as it did. -/
def chokeTurnedUptoRow : OpenClaim := { program := "ytpacpkpkinmjcaa", sum := "470c9ed339c3efe1c77c73fdd4239e9793feb402f46ab08d2314c06d06eeeb9a", func := "starling/starlinglaw14.ChokeTurned", spec := "chokeTurned", unfollowed := true, recurses := true, apart := false, narrowed := true }
def ChokeTurnedUptoSaid : Prop := chokeTurnedUptoRow.holds Try.pinned (OpenSpec.upto chokeTurnedSpec)

/-- 'starlinglaw14.ChokeRounds', WHERE WHAT IT READS IS OF BULK AT MOST 1048576: true; the input reads as it did. -/
def chokeRoundsUptoRow : OpenClaim := { program := "ytpacpkpkinmjcaa", sum := "470c9ed339c3efe1c77c73fdd4239e9793feb402f46ab08d2314c06d06eeeb9a", func := "starling/starlinglaw14.ChokeRounds", spec := "chokeRounds", unfollowed := true, recurses := true, apart := false, narrowed := true }
def ChokeRoundsUptoSaid : Prop := chokeRoundsUptoRow.holds Try.pinned (OpenSpec.upto chokeRoundsSpec)

/-- 'starlinglaw14.ChokeTurns', WHERE WHAT IT READS IS OF BULK AT MOST 1048576: true; the input reads as it did. -/
def chokeTurnsUptoRow : OpenClaim := { program := "ytpacpkpkinmjcaa", sum := "470c9ed339c3efe1c77c73fdd4239e9793feb402f46ab08d2314c06d06eeeb9a", func := "starling/starlinglaw14.ChokeTurns", spec := "chokeTurns", unfollowed := true, recurses := true, apart := false, narrowed := true }
def ChokeTurnsUptoSaid : Prop := chokeTurnsUptoRow.holds Try.pinned (OpenSpec.upto chokeTurnsSpec)

/-- 'starlinglaw14.ChokeStays', WHERE WHAT IT READS IS OF BULK AT MOST 1048576: true; the input reads as it did. -/
def chokeStaysUptoRow : OpenClaim := { program := "ytpacpkpkinmjcaa", sum := "470c9ed339c3efe1c77c73fdd4239e9793feb402f46ab08d2314c06d06eeeb9a", func := "starling/starlinglaw14.ChokeStays", spec := "chokeStays", unfollowed := true, recurses := true, apart := false, narrowed := true }
def ChokeStaysUptoSaid : Prop := chokeStaysUptoRow.holds Try.pinned (OpenSpec.upto chokeStaysSpec)

end Rows
end Go.Proofs.Ytpacpkpkinmjcaa
