/-
  Part 3 of what the claim leans on: contracts of the functions that the law reaches, and plain facts. Conditions: the theorems' own.
-/
import Derived.WalkKit
import Derived.ProofKit
import Derived.OpenShut
import Derived.Lay
import Derived.SevenTiedAt
import Derived.Deep.DeepHandedRow
import Derived.Test.YtkfaoeobfigagaaGreatDoorShYB
import Derived.Test.YtkfaoeobfigagaaGreatDoorRows
set_option linter.all false
set_option maxRecDepth 100000
set_option maxHeartbeats 16000000
namespace Go.Proofs.YtkfaoeobfigagaaGreatDoor.embedShellsUpto
open Go.ChangeAt Go.ChangeShapes Go.RowKit Go.WideShapes Go.Proofs.Tryz
def p0:Rows.embedShellsUptoRow.wfByText (Rows.OpenSpec.upto Rows.embedShellsSpec)=true:=by kernel_rfl
def p1:Tryz.pinned.checked.prog.mainIs=some (true,"f368450c9e4511376666646a2d596c389efb2a28fde8ac71d77d268be9f6aea4".toList):=by kernel_rfl
def p2:true=prog.looks []:=by kernel_rfl
def p3:([27].all fun u=> !prog.wantsStandIn u)=true:=by kernel_rfl
def p4:prog.funcNamed "targum/targumlaw17.EmbedShells" =some 8:=by kernel_rfl
def p5:false=Rows.embedShellsUptoRow.goesBy Tryz.pinned.checked.prog:=by kernel_rfl
end Go.Proofs.YtkfaoeobfigagaaGreatDoor.embedShellsUpto
