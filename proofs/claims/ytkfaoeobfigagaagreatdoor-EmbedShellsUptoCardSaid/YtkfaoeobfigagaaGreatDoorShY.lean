/-
  What is proved: for every input the law EmbedShells (targum/targumlaw17.EmbedShells) returns true and leaves its arguments as they were. Conditions: none beyond the statement's own (what it reads is of bulk at most 1048576; the listed package variables hold what start-up laid: the card ties them).
  The frame is turned from a worked proof of the kit (Pindig); wip/gen_end.py prints it.
-/
import Derived.Test.YtkfaoeobfigagaaGreatDoorShYJ
import Derived.Test.YtkfaoeobfigagaaGreatDoorCards
import Derived.Test.YtkfaoeobfigagaaGreatDoorTie
import Derived.Test.YtkfaoeobfigagaaGreatDoorRows
import Derived.WalkKit
import Derived.ProofKit
import Derived.OpenShut
import Derived.Lay
import Derived.SevenTiedAt
import Derived.Deep.DeepHandedRow
set_option linter.all false
set_option maxRecDepth 100000
set_option maxHeartbeats 16000000
namespace Go.Proofs.YtkfaoeobfigagaaGreatDoor.embedShellsUpto
open Go.ChangeAt Go.ChangeShapes Go.RowKit Go.WideShapes
theorem over:Rows.embedShellsUptoRow.holds Tryz.pinned (Rows.OpenSpec.upto Rows.embedShellsSpec):=
 OpenClaim.holds_of_cond 8 Tryz.f8 rfl rfl rfl rfl rfl rfl rfl ⟨rfl,rfl,rfl,rfl,rfl⟩ rfl rfl rfl rfl rfl kM Tryz.func8 closed
  (of_decide_eq_true kM) (by unfold Func.isWrapper;first| (rw[if_pos (by decide+kernel)];kernel_rfl)| (rw[if_neg (by decide+kernel)];exact⟨rfl,rfl⟩))
  (fun v j H q _ F=>by rw[OpenClaim.pre_eq_preRow];exact lifted v j H q F)
theorem proved:Rows.EmbedShellsUptoCardSaid:=
 Claim7.holds_tied_plain_at .later [] [.data,.data,.data,.data,.sentinel,.sentinel,.sentinel,.sentinel,.sentinel,.sentinel,.pinned] true (true,"f368450c9e4511376666646a2d596c389efb2a28fde8ac71d77d268be9f6aea4") true
  over (fun _ h=>by cases h) p0 (fun _ h=>by cases h) embedShellsUpto_row_tie rfl ⟨rfl,rfl⟩ p1 rfl
  (fun f fn m v=>by
   obtain rfl:f=8:=Option.some.inj (p4.symm.trans m)|>.symm;obtain rfl:fn=Tryz.f8:=(Option.some.inj (Tryz.func8.symm.trans v)).symm;exact⟨p2,fun j t y=>by
    rw[Tryz.params8]at y;have z:t∈[27]:=by simpa using Array.mem_of_getElem? y
    have q:=p3;exact(show Tryz.prog.wantsStandIn t=false by simpa using List.all_eq_true.1 q t z)⟩)
  p5
#print axioms proved
end Go.Proofs.YtkfaoeobfigagaaGreatDoor.embedShellsUpto
