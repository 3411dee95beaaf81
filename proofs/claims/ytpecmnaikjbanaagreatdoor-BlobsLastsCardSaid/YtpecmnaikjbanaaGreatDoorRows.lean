/-
  NARROWER THAN 'FOR EVERY INPUT', by the rows' own cells (each row's printed sentence says how): BlobsSpoilt: laid · BlobsGranted: laid · BlobsHalf: laid · BlobsAgain: laid · BlobsShared: laid · BlobsWhole: laid · BlobsLasts: laid.
  DERIVED. THE GIVEN ROWS OF THIS SEAT. 7 by the template 'for every input the law returns true; each argument reads behind the call as it read before'; 0 by the template 'total and deterministic' (their statements: YtpecmnaikjbanaaGreatDoorTotals.lean).
  GIVEN WITH THE SEED: the statements are not yours to turn. If you find one false, say at which input.
  Laid BY PROGRAM, IN A SANDBOX (cutbox-rows.mjs): the forced cells as the released guide's own fill.sh prints them over the translation ed8d98afdbbb043d… (all of the seat's roots in one cut). By AI agents, Wed Nov 11 2026. No macro, syntax, notation, axiom, sorry.
-/
import Derived.Test.YtpecmnaikjbanaaGreatDoorChecked
import GoSem.Claim
import GoSem.ClaimJoined
import GoSem.ClaimMapViews
import Derived.JoinedTies
import Derived.KernelRfl
namespace Go.Proofs.YtpecmnaikjbanaaGreatDoor
/- THE CELL 'sum', in the pinned program and in every row, IS THE sha256 OF THE DUMP (.gsa) THAT YtpecmnaikjbanaaGreatDoorProg.lean LOADS. Nothing in Lean hashes anything: it is a label: what it is worth is what the hold of that sum in a sandbox is worth. -/
noncomputable def Tryz.pinned : Pinned := { name := "ytpecmnaikjbanaagreatdoor", sum := "ed8d98afdbbb043df50e0b130a34fb2443366d52f28b700f6338e0b50aa6e03b", checked := Tryz.checked }
namespace Rows
def none {H : Type} : Left H := { results := [], args := [] }

/- WHAT THE LISTED PACKAGE-LEVEL VARIABLES READ AS WHEN THE CALL BEGINS. Each datum BY PROGRAM (the guide's laid-datum.mjs) off the statement by which the dump's own 'gosem.cut.vars' lays the variable. In a bare row this is a premise. The card (YtpecmnaikjbanaaGreatDoorCards.lean) ties it to the program's text. -/
def laid_starling_digest_constants {H : Type} : DataW H := .agg [.lit (.int .u32 1116352408), .lit (.int .u32 1899447441), .lit (.int .u32 3049323471), .lit (.int .u32 3921009573), .lit (.int .u32 961987163), .lit (.int .u32 1508970993), .lit (.int .u32 2453635748), .lit (.int .u32 2870763221), .lit (.int .u32 3624381080), .lit (.int .u32 310598401), .lit (.int .u32 607225278), .lit (.int .u32 1426881987), .lit (.int .u32 1925078388), .lit (.int .u32 2162078206), .lit (.int .u32 2614888103), .lit (.int .u32 3248222580), .lit (.int .u32 3835390401), .lit (.int .u32 4022224774), .lit (.int .u32 264347078), .lit (.int .u32 604807628), .lit (.int .u32 770255983), .lit (.int .u32 1249150122), .lit (.int .u32 1555081692), .lit (.int .u32 1996064986), .lit (.int .u32 2554220882), .lit (.int .u32 2821834349), .lit (.int .u32 2952996808), .lit (.int .u32 3210313671), .lit (.int .u32 3336571891), .lit (.int .u32 3584528711), .lit (.int .u32 113926993), .lit (.int .u32 338241895), .lit (.int .u32 666307205), .lit (.int .u32 773529912), .lit (.int .u32 1294757372), .lit (.int .u32 1396182291), .lit (.int .u32 1695183700), .lit (.int .u32 1986661051), .lit (.int .u32 2177026350), .lit (.int .u32 2456956037), .lit (.int .u32 2730485921), .lit (.int .u32 2820302411), .lit (.int .u32 3259730800), .lit (.int .u32 3345764771), .lit (.int .u32 3516065817), .lit (.int .u32 3600352804), .lit (.int .u32 4094571909), .lit (.int .u32 275423344), .lit (.int .u32 430227734), .lit (.int .u32 506948616), .lit (.int .u32 659060556), .lit (.int .u32 883997877), .lit (.int .u32 958139571), .lit (.int .u32 1322822218), .lit (.int .u32 1537002063), .lit (.int .u32 1747873779), .lit (.int .u32 1955562222), .lit (.int .u32 2024104815), .lit (.int .u32 2227730452), .lit (.int .u32 2361852424), .lit (.int .u32 2428436474), .lit (.int .u32 2756734187), .lit (.int .u32 3204031479), .lit (.int .u32 3329325298)]

/-- 'starlinglaw08.BlobsSpoilt': WHATEVER THE INPUT: true; the input reads as it did. -/
def blobsSpoiltSpec : ChangeSpec := { name := "blobsSpoilt", fn := fun _ => fun
  | [d1, d2, d3] => { results := [.lit (.bool true)], args := [d1, d2, d3] }
  | _ => none }
def blobsSpoiltRow : OpenClaim := { program := "ytpecmnaikjbanaagreatdoor", sum := "ed8d98afdbbb043df50e0b130a34fb2443366d52f28b700f6338e0b50aa6e03b", func := "starling/starlinglaw08.BlobsSpoilt", spec := "blobsSpoilt", inPlace := ["maps.clone"], unfollowed := true, recurses := true, named := ["starling/digest.constants"], plainKeys := false, apart := false, laid := [("starling/digest.constants", laid_starling_digest_constants)] }
def BlobsSpoiltSaid : Prop := blobsSpoiltRow.holds Tryz.pinned (OpenSpec.ofChange blobsSpoiltSpec)

/-- ITS FALSE NEIGHBOUR: 'it returns false'. Refute it at one input. -/
def blobsSpoiltWrong : ChangeSpec := { name := "blobsSpoilt", fn := fun _ => fun
  | [d1, d2, d3] => { results := [.lit (.bool false)], args := [d1, d2, d3] }
  | _ => none }
def BlobsSpoiltWrongFalsely : Prop := blobsSpoiltRow.holds Tryz.pinned (OpenSpec.ofChange blobsSpoiltWrong)

/-- 'starlinglaw08.BlobsGranted': WHATEVER THE INPUT: true; the input reads as it did. -/
def blobsGrantedSpec : ChangeSpec := { name := "blobsGranted", fn := fun _ => fun
  | [d1, d2] => { results := [.lit (.bool true)], args := [d1, d2] }
  | _ => none }
def blobsGrantedRow : OpenClaim := { program := "ytpecmnaikjbanaagreatdoor", sum := "ed8d98afdbbb043df50e0b130a34fb2443366d52f28b700f6338e0b50aa6e03b", func := "starling/starlinglaw08.BlobsGranted", spec := "blobsGranted", inPlace := ["maps.clone"], unfollowed := true, recurses := true, named := ["starling/digest.constants"], plainKeys := false, apart := false, laid := [("starling/digest.constants", laid_starling_digest_constants)] }
def BlobsGrantedSaid : Prop := blobsGrantedRow.holds Tryz.pinned (OpenSpec.ofChange blobsGrantedSpec)

/-- ITS FALSE NEIGHBOUR: 'it returns false'. Refute it at one input. -/
def blobsGrantedWrong : ChangeSpec := { name := "blobsGranted", fn := fun _ => fun
  | [d1, d2] => { results := [.lit (.bool false)], args := [d1, d2] }
  | _ => none }
def BlobsGrantedWrongFalsely : Prop := blobsGrantedRow.holds Tryz.pinned (OpenSpec.ofChange blobsGrantedWrong)

/-- 'starlinglaw08.BlobsHalf': WHATEVER THE INPUT: true; the input reads as it did. -/
def blobsHalfSpec : ChangeSpec := { name := "blobsHalf", fn := fun _ => fun
  | [d1, d2, d3] => { results := [.lit (.bool true)], args := [d1, d2, d3] }
  | _ => none }
def blobsHalfRow : OpenClaim := { program := "ytpecmnaikjbanaagreatdoor", sum := "ed8d98afdbbb043df50e0b130a34fb2443366d52f28b700f6338e0b50aa6e03b", func := "starling/starlinglaw08.BlobsHalf", spec := "blobsHalf", inPlace := ["maps.clone"], unfollowed := true, recurses := true, named := ["starling/digest.constants"], plainKeys := false, apart := false, laid := [("starling/digest.constants", laid_starling_digest_constants)] }
def BlobsHalfSaid : Prop := blobsHalfRow.holds Tryz.pinned (OpenSpec.ofChange blobsHalfSpec)

/-- ITS FALSE NEIGHBOUR: 'it returns false'. Refute it at one input. -/
def blobsHalfWrong : ChangeSpec := { name := "blobsHalf", fn := fun _ => fun
  | [d1, d2, d3] => { results := [.lit (.bool false)], args := [d1, d2, d3] }
  | _ => none }
def BlobsHalfWrongFalsely : Prop := blobsHalfRow.holds Tryz.pinned (OpenSpec.ofChange blobsHalfWrong)

/-- 'starlinglaw08.BlobsAgain': WHATEVER THE INPUT: true; the input reads as it did. -/
def blobsAgainSpec : ChangeSpec := { name := "blobsAgain", fn := fun _ => fun
  | [d] => { results := [.lit (.bool true)], args := [d] }
  | _ => none }
def blobsAgainRow : OpenClaim := { program := "ytpecmnaikjbanaagreatdoor", sum := "ed8d98afdbbb043df50e0b130a34fb2443366d52f28b700f6338e0b50aa6e03b", func := "starling/starlinglaw08.BlobsAgain", spec := "blobsAgain", inPlace := ["maps.clone", "internal/bytealg.Compare"], unfollowed := true, recurses := true, named := ["starling/digest.constants"], plainKeys := false, apart := false, laid := [("starling/digest.constants", laid_starling_digest_constants)] }
def BlobsAgainSaid : Prop := blobsAgainRow.holds Tryz.pinned (OpenSpec.ofChange blobsAgainSpec)

/-- ITS FALSE NEIGHBOUR: 'it returns false'. Refute it at one input. -/
def blobsAgainWrong : ChangeSpec := { name := "blobsAgain", fn := fun _ => fun
  | [d] => { results := [.lit (.bool false)], args := [d] }
  | _ => none }
def BlobsAgainWrongFalsely : Prop := blobsAgainRow.holds Tryz.pinned (OpenSpec.ofChange blobsAgainWrong)

/-- 'starlinglaw08.BlobsShared': WHATEVER THE INPUT: true; the input reads as it did. -/
def blobsSharedSpec : ChangeSpec := { name := "blobsShared", fn := fun _ => fun
  | [d1, d2, d3] => { results := [.lit (.bool true)], args := [d1, d2, d3] }
  | _ => none }
def blobsSharedRow : OpenClaim := { program := "ytpecmnaikjbanaagreatdoor", sum := "ed8d98afdbbb043df50e0b130a34fb2443366d52f28b700f6338e0b50aa6e03b", func := "starling/starlinglaw08.BlobsShared", spec := "blobsShared", inPlace := ["maps.clone", "internal/bytealg.Compare"], unfollowed := true, recurses := true, named := ["starling/digest.constants"], plainKeys := false, apart := false, laid := [("starling/digest.constants", laid_starling_digest_constants)] }
def BlobsSharedSaid : Prop := blobsSharedRow.holds Tryz.pinned (OpenSpec.ofChange blobsSharedSpec)

/-- ITS FALSE NEIGHBOUR: 'it returns false'. Refute it at one input. -/
def blobsSharedWrong : ChangeSpec := { name := "blobsShared", fn := fun _ => fun
  | [d1, d2, d3] => { results := [.lit (.bool false)], args := [d1, d2, d3] }
  | _ => none }
def BlobsSharedWrongFalsely : Prop := blobsSharedRow.holds Tryz.pinned (OpenSpec.ofChange blobsSharedWrong)

/-- 'starlinglaw08.BlobsWhole': WHATEVER THE INPUT: true; the input reads as it did. -/
def blobsWholeSpec : ChangeSpec := { name := "blobsWhole", fn := fun _ => fun
  | [d1, d2, d3] => { results := [.lit (.bool true)], args := [d1, d2, d3] }
  | _ => none }
def blobsWholeRow : OpenClaim := { program := "ytpecmnaikjbanaagreatdoor", sum := "ed8d98afdbbb043df50e0b130a34fb2443366d52f28b700f6338e0b50aa6e03b", func := "starling/starlinglaw08.BlobsWhole", spec := "blobsWhole", inPlace := ["maps.clone", "internal/bytealg.Compare"], unfollowed := true, recurses := true, named := ["starling/digest.constants"], plainKeys := false, apart := false, laid := [("starling/digest.constants", laid_starling_digest_constants)] }
def BlobsWholeSaid : Prop := blobsWholeRow.holds Tryz.pinned (OpenSpec.ofChange blobsWholeSpec)

/-- ITS FALSE NEIGHBOUR: 'it returns false'. Refute it at one input. -/
def blobsWholeWrong : ChangeSpec := { name := "blobsWhole", fn := fun _ => fun
  | [d1, d2, d3] => { results := [.lit (.bool false)], args := [d1, d2, d3] }
  | _ => none }
def BlobsWholeWrongFalsely : Prop := blobsWholeRow.holds Tryz.pinned (OpenSpec.ofChange blobsWholeWrong)

/-- 'starlinglaw08.BlobsLasts': WHATEVER THE INPUT: true; the input reads as it did. -/
def blobsLastsSpec : ChangeSpec := { name := "blobsLasts", fn := fun _ => fun
  | [d] => { results := [.lit (.bool true)], args := [d] }
  | _ => none }
def blobsLastsRow : OpenClaim := { program := "ytpecmnaikjbanaagreatdoor", sum := "ed8d98afdbbb043df50e0b130a34fb2443366d52f28b700f6338e0b50aa6e03b", func := "starling/starlinglaw08.BlobsLasts", spec := "blobsLasts", inPlace := ["maps.clone", "internal/bytealg.Compare"], unfollowed := true, recurses := true, named := ["starling/digest.constants"], plainKeys := false, apart := false, laid := [("starling/digest.constants", laid_starling_digest_constants)] }
def BlobsLastsSaid : Prop := blobsLastsRow.holds Tryz.pinned (OpenSpec.ofChange blobsLastsSpec)

/-- ITS FALSE NEIGHBOUR: 'it returns false'. Refute it at one input. -/
def blobsLastsWrong : ChangeSpec := { name := "blobsLasts", fn := fun _ => fun
  | [d] => { results := [.lit (.bool false)], args := [d] }
  | _ => none }
def BlobsLastsWrongFalsely : Prop := blobsLastsRow.holds Tryz.pinned (OpenSpec.ofChange blobsLastsWrong)

/- THE SECOND FORM. 'bulk': how many values and letters a reading holds, each counted each time it is reached (what is shared counts as often as it is met; a slice's spare places count too). A statement '..UptoSaid' is the law's where the arguments, and the package variables that the reading takes, are together of bulk at most 1048576: NARROWER than '..Said'. Prove '..Said' where nothing that the law and all that it calls make is longer than what came in: it says more and counts as full. Else prove '..UptoSaid'. A law counts once. -/
mutual
def uptoBulk {H : Type} : DataW H → Nat
  | .lit (.string bytes) => bytes.length + 1
  | .lit _ => 1
  | .nil => 1
  | .ptr d => uptoBulk d + 1
  | .slice elems spare => uptoBulkAll elems + uptoBulkAll spare + 1
  | .agg parts => uptoBulkAll parts + 1
  | .iface _ d => uptoBulk d + 1
  | .map entries => uptoBulkEntries entries + 1
  | .held _ => 1
def uptoBulkAll {H : Type} : List (DataW H) → Nat
  | [] => 0
  | d :: r => uptoBulk d + uptoBulkAll r
def uptoBulkEntries {H : Type} : List (Lit × DataW H) → Nat
  | [] => 0
  | x :: r => uptoBulkEntry x + uptoBulkEntries r
def uptoBulkEntry {H : Type} : Lit × DataW H → Nat
  | (.string bytes, d) => bytes.length + uptoBulk d + 1
  | (_, d) => uptoBulk d + 1
 end
def uptoSmall : (H : Type) → List (DataW H) → Bool := fun _ ds => decide (uptoBulkAll ds ≤ 1048576)
def OpenSpec.upto (s : _root_.Go.ChangeSpec) : _root_.Go.OpenSpec := { _root_.Go.OpenSpec.ofChange s with cond := some uptoSmall }

/-- 'starlinglaw08.BlobsSpoilt', WHERE WHAT IT READS IS OF BULK AT MOST 1048576: true; the input reads as it did. -/
def blobsSpoiltUptoRow : OpenClaim := { program := "ytpecmnaikjbanaagreatdoor", sum := "ed8d98afdbbb043df50e0b130a34fb2443366d52f28b700f6338e0b50aa6e03b", func := "starling/starlinglaw08.BlobsSpoilt", spec := "blobsSpoilt", inPlace := ["maps.clone"], unfollowed := true, recurses := true, named := ["starling/digest.constants"], plainKeys := false, apart := false, laid := [("starling/digest.constants", laid_starling_digest_constants)], narrowed := true }
def BlobsSpoiltUptoSaid : Prop := blobsSpoiltUptoRow.holds Tryz.pinned (OpenSpec.upto blobsSpoiltSpec)

/-- 'starlinglaw08.BlobsGranted', WHERE WHAT IT READS IS OF BULK AT MOST 1048576: true; the input reads as it did. -/
def blobsGrantedUptoRow : OpenClaim := { program := "ytpecmnaikjbanaagreatdoor", sum := "ed8d98afdbbb043df50e0b130a34fb2443366d52f28b700f6338e0b50aa6e03b", func := "starling/starlinglaw08.BlobsGranted", spec := "blobsGranted", inPlace := ["maps.clone"], unfollowed := true, recurses := true, named := ["starling/digest.constants"], plainKeys := false, apart := false, laid := [("starling/digest.constants", laid_starling_digest_constants)], narrowed := true }
def BlobsGrantedUptoSaid : Prop := blobsGrantedUptoRow.holds Tryz.pinned (OpenSpec.upto blobsGrantedSpec)

/-- 'starlinglaw08.BlobsHalf', WHERE WHAT IT READS IS OF BULK AT MOST 1048576: true; the input reads as it did. -/
def blobsHalfUptoRow : OpenClaim := { program := "ytpecmnaikjbanaagreatdoor", sum := "ed8d98afdbbb043df50e0b130a34fb2443366d52f28b700f6338e0b50aa6e03b", func := "starling/starlinglaw08.BlobsHalf", spec := "blobsHalf", inPlace := ["maps.clone"], unfollowed := true, recurses := true, named := ["starling/digest.constants"], plainKeys := false, apart := false, laid := [("starling/digest.constants", laid_starling_digest_constants)], narrowed := true }
def BlobsHalfUptoSaid : Prop := blobsHalfUptoRow.holds Tryz.pinned (OpenSpec.upto blobsHalfSpec)

/-- 'starlinglaw08.BlobsAgain', WHERE WHAT IT READS IS OF BULK AT MOST 1048576: true; the input reads as it did. -/
def blobsAgainUptoRow : OpenClaim := { program := "ytpecmnaikjbanaagreatdoor", sum := "ed8d98afdbbb043df50e0b130a34fb2443366d52f28b700f6338e0b50aa6e03b", func := "starling/starlinglaw08.BlobsAgain", spec := "blobsAgain", inPlace := ["maps.clone", "internal/bytealg.Compare"], unfollowed := true, recurses := true, named := ["starling/digest.constants"], plainKeys := false, apart := false, laid := [("starling/digest.constants", laid_starling_digest_constants)], narrowed := true }
def BlobsAgainUptoSaid : Prop := blobsAgainUptoRow.holds Tryz.pinned (OpenSpec.upto blobsAgainSpec)

/-- 'starlinglaw08.BlobsShared', WHERE WHAT IT READS IS OF BULK AT MOST 1048576: true; the input reads as it did. -/
def blobsSharedUptoRow : OpenClaim := { program := "ytpecmnaikjbanaagreatdoor", sum := "ed8d98afdbbb043df50e0b130a34fb2443366d52f28b700f6338e0b50aa6e03b", func := "starling/starlinglaw08.BlobsShared", spec := "blobsShared", inPlace := ["maps.clone", "internal/bytealg.Compare"], unfollowed := true, recurses := true, named := ["starling/digest.constants"], plainKeys := false, apart := false, laid := [("starling/digest.constants", laid_starling_digest_constants)], narrowed := true }
def BlobsSharedUptoSaid : Prop := blobsSharedUptoRow.holds Tryz.pinned (OpenSpec.upto blobsSharedSpec)

/-- 'starlinglaw08.BlobsWhole', WHERE WHAT IT READS IS OF BULK AT MOST 1048576: true; the input reads as it did. -/
def blobsWholeUptoRow : OpenClaim := { program := "ytpecmnaikjbanaagreatdoor", sum := "ed8d98afdbbb043df50e0b130a34fb2443366d52f28b700f6338e0b50aa6e03b", func := "starling/starlinglaw08.BlobsWhole", spec := "blobsWhole", inPlace := ["maps.clone", "internal/bytealg.Compare"], unfollowed := true, recurses := true, named := ["starling/digest.constants"], plainKeys := false, apart := false, laid := [("starling/digest.constants", laid_starling_digest_constants)], narrowed := true }
def BlobsWholeUptoSaid : Prop := blobsWholeUptoRow.holds Tryz.pinned (OpenSpec.upto blobsWholeSpec)

/-- 'starlinglaw08.BlobsLasts', WHERE WHAT IT READS IS OF BULK AT MOST 1048576: true; the input reads as it did. -/
def blobsLastsUptoRow : OpenClaim := { program := "ytpecmnaikjbanaagreatdoor", sum := "ed8d98afdbbb043df50e0b130a34fb2443366d52f28b700f6338e0b50aa6e03b", func := "starling/starlinglaw08.BlobsLasts", spec := "blobsLasts", inPlace := ["maps.clone", "internal/bytealg.Compare"], unfollowed := true, recurses := true, named := ["starling/digest.constants"], plainKeys := false, apart := false, laid := [("starling/digest.constants", laid_starling_digest_constants)], narrowed := true }
def BlobsLastsUptoSaid : Prop := blobsLastsUptoRow.holds Tryz.pinned (OpenSpec.upto blobsLastsSpec)

end Rows
end Go.Proofs.YtpecmnaikjbanaaGreatDoor
