/-
  Part 2 of what the claim leans on: contracts of the functions that the law reaches, and plain facts. Conditions: the theorems' own.
-/
import Derived.WalkKit
import Derived.ProofKit
import Derived.OpenShut
import Derived.Lay
import Derived.SevenTiedAt
import Derived.Deep.DeepHandedRow
import Derived.Test.YtkfaoeobfigagaaGreatDoorShYA
import Derived.Test.YtkfaoeobfigagaaGreatDoorRows
set_option linter.all false
set_option maxRecDepth 100000
set_option maxHeartbeats 16000000
namespace Go.Proofs.YtkfaoeobfigagaaGreatDoor.embedShellsUpto
open Go.ChangeAt Go.ChangeShapes Go.RowKit Go.WideShapes Go.Proofs.Tryz
def k0:(Rows.embedShellsUptoRow.wf (OpenSpec.ofChange Rows.embedShellsSpec))=true:=by kernel_rfl
def k1:(laidOutB prog)=true:=by kernel_rfl
def k2:(mapsRowed prog)=true:=by kernel_rfl
def k3:(f8.params.all (prog.readableRec ·))=true:=by kernel_rfl
def k4:(namedTie prog Rows.embedShellsUptoRow.named Rows.embedShellsSpec.vars)=true:=by kernel_rfl
def k5:((Rows.embedShellsUptoRow.stops==[]))=true:=by kernel_rfl
def k6:((prog.stops==[]))=true:=by kernel_rfl
def k7:((Rows.embedShellsUptoRow.knobs==[]))=true:=by kernel_rfl
def k8:((prog.stopKnobs==[]))=true:=by kernel_rfl
def k9:((Rows.embedShellsUptoRow.inPlace==prog.inPlace 8))=true:=by kernel_rfl
def k10:((Rows.embedShellsUptoRow.unfollowed==prog.unfollowed 8))=true:=by kernel_rfl
def k11:((Rows.embedShellsUptoRow.recurses==prog.recurses 8))=true:=by kernel_rfl
def k12:((Rows.embedShellsUptoRow.named==prog.varsNamed 8))=true:=by kernel_rfl
def k13:((Rows.embedShellsUptoRow.maps==(f8.params.toList++Rows.embedShellsSpec.plain.varTypes prog).any (prog.mapsRec ·)))=true:=by kernel_rfl
def k14:((Rows.embedShellsUptoRow.ifaces==(f8.params.toList++Rows.embedShellsSpec.plain.varTypes prog).any (prog.ifacesRec ·)))=true:=by kernel_rfl
def k15:((Rows.embedShellsUptoRow.mapsOut==prog.mapsAmong f8.resultTypes.toList))=true:=by kernel_rfl
def k16:((Rows.embedShellsUptoRow.loops==(f8.params.toList++Rows.embedShellsSpec.plain.varTypes prog).any (prog.loopsFrom ·)))=true:=by kernel_rfl
def k17:((Rows.embedShellsUptoRow.wideKeys==(f8.params.toList++Rows.embedShellsSpec.plain.varTypes prog++f8.resultTypes.toList).any (prog.wideKeysFrom ·)))=true:=by kernel_rfl
def k18:(Rows.embedShellsSpec.vars.all (prog.varReadable ·))=true:=by kernel_rfl
def k19:(f8.resultTypes.all (fun t=>prog.readableRec t&&decide (t<prog.types.size)))=true:=by kernel_rfl
def k20:((Rows.embedShellsUptoRow.ifacesOut==f8.resultTypes.toList.any (prog.ifacesRec ·)))=true:=by kernel_rfl
def k21:((Rows.embedShellsUptoRow.loopsOut==f8.resultTypes.toList.any (prog.loopsFrom ·)))=true:=by kernel_rfl
def k22:((Rows.embedShellsUptoRow.plainKeys==prog.plainKeys))=true:=by kernel_rfl
def k23:(Rows.embedShellsUptoRow.shortTexts.isNone)=true:=by kernel_rfl
def k24:(prog.stopsHeard)=true:=by kernel_rfl
def k25:(prog.mayEnter)=true:=by kernel_rfl
def k26:((Rows.embedShellsUptoRow.lifted==prog.liftsFinal))=true:=by kernel_rfl
def k27:((prog.make==some Rows.embedShellsUptoRow.make))=true:=by kernel_rfl
def k29:((Rows.embedShellsUptoRow.pinned==Rows.embedShellsUptoRow.pinnedBy))=true:=by kernel_rfl
def k30:((Rows.embedShellsUptoRow.veiled==(f8.params.toList++Rows.embedShellsSpec.plain.varTypes prog++f8.resultTypes.toList).any (prog.veiledRec ·)))=true:=by kernel_rfl
def k31:(Rows.embedShellsUptoRow.veiledFits prog f8.params.toList (f8.params.toList++Rows.embedShellsSpec.plain.varTypes prog++f8.resultTypes.toList))=true:=by kernel_rfl
def closed:joinedFacts prog 8 f8 Rows.embedShellsSpec Rows.embedShellsUptoRow=true:=by
 unfold joinedFacts;rw[k0,k1,k2,k3,k4,k5,k6,k7,k8,k9,k10,k11,k12,k13,k14,k15,k16,k17,k18,k19,k20,k21,k22,k23,k24,k25,k26,k27,k29,k30,k31];kernel_rfl
end Go.Proofs.YtkfaoeobfigagaaGreatDoor.embedShellsUpto
