/-
  No cell of these rows narrows 'for every input' (looked for: loops, veiled, ifaces, maps, wideKeys, modest, calm, conditions, laid).
  DERIVED. THE GIVEN ROWS OF THIS SEAT. 6 by the template 'for every input the law returns true; each argument reads behind the call as it read before'; 0 by the template 'total and deterministic' (their statements: YtkolfdcojhglpaaTotals.lean).
  GIVEN WITH THE SEED: the statements are not yours to turn. If you find one false, say at which input.
  Laid BY PROGRAM, IN A SANDBOX (cutbox-rows.mjs): the forced cells as the released guide's own fill.sh prints them over the translation b14308d536986c8c… (all of the seat's roots in one cut). By AI agents, Wed Nov 11 2026. No macro, syntax, notation, axiom, sorry.
-/
import Derived.Test.YtkolfdcojhglpaaChecked
import GoSem.Claim
import GoSem.ClaimJoined
import GoSem.ClaimMapViews
import Derived.JoinedTies
import Derived.KernelRfl
namespace Go.Proofs.Ytkolfdcojhglpaa
/- THE CELL 'sum', in the pinned program and in every row, IS THE sha256 OF THE DUMP (.gsa) THAT YtkolfdcojhglpaaProg.lean LOADS. Nothing in Lean hashes anything: it is a label: what it is worth is what the hold of that sum in a sandbox is worth. -/
noncomputable def Try.pinned : Pinned := { name := "ytkolfdcojhglpaa", sum := "b14308d536986c8cad19227a691ea739952143e35f91aa6642523d97b72ade3c", checked := Try.checked }
namespace Rows
def none {H : Type} : Left H := { results := [], args := [] }

/-- 'targumlaw03.B64Back': WHATEVER THE INPUT: true; the input reads as it did. -/
def b64BackSpec : ChangeSpec := { name := "b64Back", fn := fun _ => fun
  | [d1, d2] => { results := [.lit (.bool true)], args := [d1, d2] }
  | _ => none }
def b64BackRow : OpenClaim := { program := "ytkolfdcojhglpaa", sum := "b14308d536986c8cad19227a691ea739952143e35f91aa6642523d97b72ade3c", func := "targum/targumlaw03.B64Back", spec := "b64Back", inPlace := ["internal/abi.NoEscape"], unfollowed := true, recurses := true, apart := false }
def B64BackSaid : Prop := b64BackRow.holds Try.pinned (OpenSpec.ofChange b64BackSpec)

/-- ITS FALSE NEIGHBOUR: 'it returns false'. Refute it at one input. -/
def b64BackWrong : ChangeSpec := { name := "b64Back", fn := fun _ => fun
  | [d1, d2] => { results := [.lit (.bool false)], args := [d1, d2] }
  | _ => none }
def B64BackWrongFalsely : Prop := b64BackRow.holds Try.pinned (OpenSpec.ofChange b64BackWrong)

/-- 'targumlaw03.B64Joins': WHATEVER THE INPUT: true; the input reads as it did. -/
def b64JoinsSpec : ChangeSpec := { name := "b64Joins", fn := fun _ => fun
  | [d1, d2] => { results := [.lit (.bool true)], args := [d1, d2] }
  | _ => none }
def b64JoinsRow : OpenClaim := { program := "ytkolfdcojhglpaa", sum := "b14308d536986c8cad19227a691ea739952143e35f91aa6642523d97b72ade3c", func := "targum/targumlaw03.B64Joins", spec := "b64Joins", inPlace := ["internal/abi.NoEscape"], unfollowed := true, recurses := true, apart := false }
def B64JoinsSaid : Prop := b64JoinsRow.holds Try.pinned (OpenSpec.ofChange b64JoinsSpec)

/-- ITS FALSE NEIGHBOUR: 'it returns false'. Refute it at one input. -/
def b64JoinsWrong : ChangeSpec := { name := "b64Joins", fn := fun _ => fun
  | [d1, d2] => { results := [.lit (.bool false)], args := [d1, d2] }
  | _ => none }
def B64JoinsWrongFalsely : Prop := b64JoinsRow.holds Try.pinned (OpenSpec.ofChange b64JoinsWrong)

/-- 'targumlaw03.B64Pairs': WHATEVER THE INPUT: true; the input reads as it did. -/
def b64PairsSpec : ChangeSpec := { name := "b64Pairs", fn := fun _ => fun
  | [d1, d2] => { results := [.lit (.bool true)], args := [d1, d2] }
  | _ => none }
def b64PairsRow : OpenClaim := { program := "ytkolfdcojhglpaa", sum := "b14308d536986c8cad19227a691ea739952143e35f91aa6642523d97b72ade3c", func := "targum/targumlaw03.B64Pairs", spec := "b64Pairs", inPlace := ["internal/abi.NoEscape"], unfollowed := true, recurses := true, apart := false }
def B64PairsSaid : Prop := b64PairsRow.holds Try.pinned (OpenSpec.ofChange b64PairsSpec)

/-- ITS FALSE NEIGHBOUR: 'it returns false'. Refute it at one input. -/
def b64PairsWrong : ChangeSpec := { name := "b64Pairs", fn := fun _ => fun
  | [d1, d2] => { results := [.lit (.bool false)], args := [d1, d2] }
  | _ => none }
def B64PairsWrongFalsely : Prop := b64PairsRow.holds Try.pinned (OpenSpec.ofChange b64PairsWrong)

/-- 'targumlaw03.B64Turns': WHATEVER THE INPUT: true; the input reads as it did. -/
def b64TurnsSpec : ChangeSpec := { name := "b64Turns", fn := fun _ => fun
  | [d1, d2] => { results := [.lit (.bool true)], args := [d1, d2] }
  | _ => none }
def b64TurnsRow : OpenClaim := { program := "ytkolfdcojhglpaa", sum := "b14308d536986c8cad19227a691ea739952143e35f91aa6642523d97b72ade3c", func := "targum/targumlaw03.B64Turns", spec := "b64Turns", inPlace := ["internal/abi.NoEscape"], unfollowed := true, recurses := true, apart := false }
def B64TurnsSaid : Prop := b64TurnsRow.holds Try.pinned (OpenSpec.ofChange b64TurnsSpec)

/-- ITS FALSE NEIGHBOUR: 'it returns false'. Refute it at one input. -/
def b64TurnsWrong : ChangeSpec := { name := "b64Turns", fn := fun _ => fun
  | [d1, d2] => { results := [.lit (.bool false)], args := [d1, d2] }
  | _ => none }
def B64TurnsWrongFalsely : Prop := b64TurnsRow.holds Try.pinned (OpenSpec.ofChange b64TurnsWrong)

/-- 'targumlaw03.B64Codes': WHATEVER THE INPUT: true; the input reads as it did. -/
def b64CodesSpec : ChangeSpec := { name := "b64Codes", fn := fun _ => fun
  | [d1, d2] => { results := [.lit (.bool true)], args := [d1, d2] }
  | _ => none }
def b64CodesRow : OpenClaim := { program := "ytkolfdcojhglpaa", sum := "b14308d536986c8cad19227a691ea739952143e35f91aa6642523d97b72ade3c", func := "targum/targumlaw03.B64Codes", spec := "b64Codes", inPlace := ["internal/abi.NoEscape"], unfollowed := true, recurses := true, apart := false }
def B64CodesSaid : Prop := b64CodesRow.holds Try.pinned (OpenSpec.ofChange b64CodesSpec)

/-- ITS FALSE NEIGHBOUR: 'it returns false'. Refute it at one input. -/
def b64CodesWrong : ChangeSpec := { name := "b64Codes", fn := fun _ => fun
  | [d1, d2] => { results := [.lit (.bool false)], args := [d1, d2] }
  | _ => none }
def B64CodesWrongFalsely : Prop := b64CodesRow.holds Try.pinned (OpenSpec.ofChange b64CodesWrong)

/-- 'targumlaw03.B64Lengths': WHATEVER THE INPUT: true; the input reads as it did. -/
def b64LengthsSpec : ChangeSpec := { name := "b64Lengths", fn := fun _ => fun
  | [d] => { results := [.lit (.bool true)], args := [d] }
  | _ => none }
def b64LengthsRow : OpenClaim := { program := "ytkolfdcojhglpaa", sum := "b14308d536986c8cad19227a691ea739952143e35f91aa6642523d97b72ade3c", func := "targum/targumlaw03.B64Lengths", spec := "b64Lengths", inPlace := ["internal/abi.NoEscape"], unfollowed := true, recurses := true, apart := false }
def B64LengthsSaid : Prop := b64LengthsRow.holds Try.pinned (OpenSpec.ofChange b64LengthsSpec)

/-- ITS FALSE NEIGHBOUR: 'it returns false'. Refute it at one input. -/
def b64LengthsWrong : ChangeSpec := { name := "b64Lengths", fn := fun _ => fun
  | [d] => { results := [.lit (.bool false)], args := [d] }
  | _ => none }
def B64LengthsWrongFalsely : Prop := b64LengthsRow.holds Try.pinned (OpenSpec.ofChange b64LengthsWrong)

/- THE SECOND FORM. 'bulk': how many values and letters a reading holds, each counted each time it is reached (what is shared counts as often as it is met; a slice's spare places count too). A statement '..UptoSaid' is the law's where the arguments, and the package variables that the reading takes, are together of bulk at most 1048576: NARROWER than '..Said'. Prove '..Said' where nothing that the law and all that it calls make is longer than what came in: it says more and counts as full. Else prove '..UptoSaid'. A law counts once. -/
mutual
def uptoBulk {H : Type} : DataW H → Nat
  | .lit (.string bytes) => bytes.length + 1
  | .lit _ => 1
  | .nil => 1
  | .ptr d => uptoBulk d + 1
  | .slice elems spare => uptoBulkAll elems + uptoBulkAll spare + 1
  | .agg parts => uptoBulkAll parts + 1
  | .iface _ d => uptoBulk d + 1
  | .map entries => uptoBulkEntries entries + 1
  | .held _ => 1
def uptoBulkAll {H : Type} : List (DataW H) → Nat
  | [] => 0
  | d :: r => uptoBulk d + uptoBulkAll r
def uptoBulkEntries {H : Type} : List (Lit × DataW H) → Nat
  | [] => 0
  | x :: r => uptoBulkEntry x + uptoBulkEntries r
def uptoBulkEntry {H : Type} : Lit × DataW H → Nat
  | (.string bytes, d) => bytes.length + uptoBulk d + 1
  | (_, d) => uptoBulk d + 1
 end
def uptoSmall : (H : Type) → List (DataW H) → Bool := fun _ ds => decide (uptoBulkAll ds ≤ 1048576)
def OpenSpec.upto (s : _root_.Go.ChangeSpec) : _root_.Go.OpenSpec := { _root_.Go.OpenSpec.ofChange s with cond := some uptoSmall }

/-- 'targumlaw03.B64Back', WHERE WHAT IT READS IS OF BULK AT MOST 1048576: true; the input reads as it did. -/
def b64BackUptoRow : OpenClaim := { program := "ytkolfdcojhglpaa", sum := "b14308d536986c8cad19227a691ea739952143e35f91aa6642523d97b72ade3c", func := "targum/targumlaw03.B64Back", spec := "b64Back", inPlace := ["internal/abi.NoEscape"], unfollowed := true, recurses := true, apart := false, narrowed := true }
def B64BackUptoSaid : Prop := b64BackUptoRow.holds Try.pinned (OpenSpec.upto b64BackSpec)

/-- 'targumlaw03.B64Joins', WHERE WHAT IT READS IS OF BULK AT MOST 1048576: true; the input reads as it did. -/
def b64JoinsUptoRow : OpenClaim := { program := "ytkolfdcojhglpaa", sum := "b14308d536986c8cad19227a691ea739952143e35f91aa6642523d97b72ade3c", func := "targum/targumlaw03.B64Joins", spec := "b64Joins", inPlace := ["internal/abi.NoEscape"], unfollowed := true, recurses := true, apart := false, narrowed := true }
def B64JoinsUptoSaid : Prop := b64JoinsUptoRow.holds Try.pinned (OpenSpec.upto b64JoinsSpec)

/-- 'targumlaw03.B64Pairs', WHERE WHAT IT READS IS OF BULK AT MOST 1048576: true; the input reads as it did. -/
def b64PairsUptoRow : OpenClaim := { program := "ytkolfdcojhglpaa", sum := "b14308d536986c8cad19227a691ea739952143e35f91aa6642523d97b72ade3c", func := "targum/targumlaw03.B64Pairs", spec := "b64Pairs", inPlace := ["internal/abi.NoEscape"], unfollowed := true, recurses := true, apart := false, narrowed := true }
def B64PairsUptoSaid : Prop := b64PairsUptoRow.holds Try.pinned (OpenSpec.upto b64PairsSpec)

/-- 'targumlaw03.B64Turns', WHERE WHAT IT READS IS OF BULK AT MOST 1048576: true; the input reads as it did. -/
def b64TurnsUptoRow : OpenClaim := { program := "ytkolfdcojhglpaa", sum := "b14308d536986c8cad19227a691ea739952143e35f91aa6642523d97b72ade3c", func := "targum/targumlaw03.B64Turns", spec := "b64Turns", inPlace := ["internal/abi.NoEscape"], unfollowed := true, recurses := true, apart := false, narrowed := true }
def B64TurnsUptoSaid : Prop := b64TurnsUptoRow.holds Try.pinned (OpenSpec.upto b64TurnsSpec)

/-- 'targumlaw03.B64Codes', WHERE WHAT IT READS IS OF BULK AT MOST 1048576: true; the input reads as it did. -/
def b64CodesUptoRow : OpenClaim := { program := "ytkolfdcojhglpaa", sum := "b14308d536986c8cad19227a691ea739952143e35f91aa6642523d97b72ade3c", func := "targum/targumlaw03.B64Codes", spec := "b64Codes", inPlace := ["internal/abi.NoEscape"], unfollowed := true, recurses := true, apart := false, narrowed := true }
def B64CodesUptoSaid : Prop := b64CodesUptoRow.holds Try.pinned (OpenSpec.upto b64CodesSpec)

/-- 'targumlaw03.B64Lengths', WHERE WHAT IT READS IS OF BULK AT MOST 1048576: true; the input reads as it did. -/
def b64LengthsUptoRow : OpenClaim := { program := "ytkolfdcojhglpaa", sum := "b14308d536986c8cad19227a691ea739952143e35f91aa6642523d97b72ade3c", func := "targum/targumlaw03.B64Lengths", spec := "b64Lengths", inPlace := ["internal/abi.NoEscape"], unfollowed := true, recurses := true, apart := false, narrowed := true }
def B64LengthsUptoSaid : Prop := b64LengthsUptoRow.holds Try.pinned (OpenSpec.upto b64LengthsSpec)

end Rows
end Go.Proofs.Ytkolfdcojhglpaa
