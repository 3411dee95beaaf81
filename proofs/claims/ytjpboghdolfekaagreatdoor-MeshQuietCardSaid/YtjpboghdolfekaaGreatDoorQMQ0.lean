/- The heavy facts of the row: each closed, by the kernel. -/
import Derived.Test.YtjpboghdolfekaaGreatDoorRows
import Derived.WalkKit
import Derived.ProofKit
import Derived.JoinedOf
import Derived.RowKit
set_option linter.defProp false
set_option linter.unusedVariables false
namespace Go.Proofs.YtjpboghdolfekaaGreatDoor.meshQuiet
open Go
def k10:(Rows.meshQuietRow.inPlace == (Tryz.pinned.checked.prog).inPlace 3)=true:=by kernel_rfl
def k11:(Rows.meshQuietRow.unfollowed == (Tryz.pinned.checked.prog).unfollowed 3)=true:=by kernel_rfl
def k12:(Rows.meshQuietRow.recurses == (Tryz.pinned.checked.prog).recurses 3)=true:=by kernel_rfl
def k13:(Rows.meshQuietRow.named == (Tryz.pinned.checked.prog).varsNamed 3)=true:=by kernel_rfl
def j1:Rows.meshQuietRow.wf (OpenSpec.ofChange Rows.meshQuietSpec)=true:=by kernel_rfl
def j2:laidOutB (Tryz.pinned.checked.prog)=true:=by kernel_rfl
def j3:mapsRowed (Tryz.pinned.checked.prog)=true:=by kernel_rfl
def j4:(Tryz.f3).params.all ((Tryz.pinned.checked.prog).readableRec ·)=true:=by kernel_rfl
def j5:namedTie (Tryz.pinned.checked.prog) Rows.meshQuietRow.named Rows.meshQuietSpec.vars=true:=by kernel_rfl
def j6:(Rows.meshQuietRow.stops == [])=true:=by kernel_rfl
def j7:((Tryz.pinned.checked.prog).stops == [])=true:=by kernel_rfl
def j8:(Rows.meshQuietRow.knobs == [])=true:=by kernel_rfl
def j9:((Tryz.pinned.checked.prog).stopKnobs == [])=true:=by kernel_rfl
def j14:(Rows.meshQuietRow.maps == ((Tryz.f3).params.toList++Rows.meshQuietSpec.plain.varTypes (Tryz.pinned.checked.prog)).any ((Tryz.pinned.checked.prog).mapsRec ·))=true:=by kernel_rfl
def j15:(Rows.meshQuietRow.ifaces == ((Tryz.f3).params.toList++Rows.meshQuietSpec.plain.varTypes (Tryz.pinned.checked.prog)).any ((Tryz.pinned.checked.prog).ifacesRec ·))=true:=by kernel_rfl
def j16:(Rows.meshQuietRow.mapsOut == (Tryz.pinned.checked.prog).mapsAmong (Tryz.f3).resultTypes.toList)=true:=by kernel_rfl
def j17:(Rows.meshQuietRow.loops == ((Tryz.f3).params.toList++Rows.meshQuietSpec.plain.varTypes (Tryz.pinned.checked.prog)).any ((Tryz.pinned.checked.prog).loopsFrom ·))=true:=by kernel_rfl
def j18:(Rows.meshQuietRow.wideKeys == ((Tryz.f3).params.toList++Rows.meshQuietSpec.plain.varTypes (Tryz.pinned.checked.prog)++(Tryz.f3).resultTypes.toList).any ((Tryz.pinned.checked.prog).wideKeysFrom ·))=true:=by kernel_rfl
def j19:Rows.meshQuietSpec.vars.all ((Tryz.pinned.checked.prog).varReadable ·)=true:=by kernel_rfl
def j20:(Tryz.f3).resultTypes.all (fun t=>(Tryz.pinned.checked.prog).readableRec t && decide (t<(Tryz.pinned.checked.prog).types.size))=true:=by kernel_rfl
def j21:(Rows.meshQuietRow.ifacesOut == (Tryz.f3).resultTypes.toList.any ((Tryz.pinned.checked.prog).ifacesRec ·))=true:=by kernel_rfl
def j22:(Rows.meshQuietRow.loopsOut == (Tryz.f3).resultTypes.toList.any ((Tryz.pinned.checked.prog).loopsFrom ·))=true:=by kernel_rfl
def j23:(Rows.meshQuietRow.plainKeys == (Tryz.pinned.checked.prog).plainKeys)=true:=by kernel_rfl
def j24:Rows.meshQuietRow.shortTexts.isNone=true:=by kernel_rfl
def j25:(Tryz.pinned.checked.prog).stopsHeard=true:=by kernel_rfl
def j26:(Tryz.pinned.checked.prog).mayEnter=true:=by kernel_rfl
def j27:(Rows.meshQuietRow.lifted == (Tryz.pinned.checked.prog).liftsFinal)=true:=by kernel_rfl
def j28:((Tryz.pinned.checked.prog).make == some Rows.meshQuietRow.make)=true:=by kernel_rfl
def j30:(Rows.meshQuietRow.pinned == Rows.meshQuietRow.pinnedBy)=true:=by kernel_rfl
def j31:(Rows.meshQuietRow.veiled == ((Tryz.f3).params.toList++Rows.meshQuietSpec.plain.varTypes (Tryz.pinned.checked.prog)++(Tryz.f3).resultTypes.toList).any ((Tryz.pinned.checked.prog).veiledRec ·))=true:=by kernel_rfl
def j32:Rows.meshQuietRow.veiledFits (Tryz.pinned.checked.prog) (Tryz.f3).params.toList ((Tryz.f3).params.toList++Rows.meshQuietSpec.plain.varTypes (Tryz.pinned.checked.prog)++(Tryz.f3).resultTypes.toList)=true:=by kernel_rfl
def closed:joinedFacts Tryz.pinned.checked.prog 3 Tryz.f3 Rows.meshQuietSpec Rows.meshQuietRow=true:=by
 unfold joinedFacts
 rw[j1,j2,j3,j4,j5,j6,j7,j8,j9,k10,k11,k12,k13,j14,j15,j16,j17,j18,j19,j20,j21,j22,j23,j24,j25,j26,j27,j28,j30,j31,j32]
 kernel_rfl
end Go.Proofs.YtjpboghdolfekaaGreatDoor.meshQuiet
