/-
  NARROWER THAN 'FOR EVERY INPUT', by the rows' own cells (each row's printed sentence says how): EmbedTakes: loops, laid · EmbedBack: loops, laid · EmbedKeeps: loops, laid · EmbedEdits: loops, laid · EmbedFirst: loops, laid · EmbedShells: loops, laid · EmbedNone: loops, laid.
  DERIVED. THE GIVEN ROWS OF THIS SEAT. 7 by the template 'for every input the law returns true; each argument reads behind the call as it read before'; 0 by the template 'total and deterministic' (their statements: YtkfaoeobfigagaaGreatDoorTotals.lean).
  GIVEN WITH THE SEED: the statements are not yours to turn. If you find one false, say at which input.
  Laid BY PROGRAM, IN A SANDBOX (cutbox-rows.mjs): the forced cells as the released guide's own fill.sh prints them over the translation fa0c6c792096515e… (all of the seat's roots in one cut). By AI agents, Wed Nov 11 2026. No macro, syntax, notation, axiom, sorry.
-/
import Derived.Test.YtkfaoeobfigagaaGreatDoorChecked
import GoSem.PinnedTables
import GoSem.Claim
import GoSem.ClaimJoined
import GoSem.ClaimMapViews
import Derived.JoinedTies
import Derived.KernelRfl
namespace Go.Proofs.YtkfaoeobfigagaaGreatDoor
/- THE CELL 'sum', in the pinned program and in every row, IS THE sha256 OF THE DUMP (.gsa) THAT YtkfaoeobfigagaaGreatDoorProg.lean LOADS. Nothing in Lean hashes anything: it is a label: what it is worth is what the hold of that sum in a sandbox is worth. -/
noncomputable def Tryz.pinned : Pinned := { name := "ytkfaoeobfigagaagreatdoor", sum := "fa0c6c792096515e37612405a3840c6fdb7c82eff881fbfd74f55c4d2b93932c", checked := Tryz.checked }
namespace Rows
def none {H : Type} : Left H := { results := [], args := [] }

/- WHAT THE LISTED PACKAGE-LEVEL VARIABLES READ AS WHEN THE CALL BEGINS. Each datum BY PROGRAM (the guide's laid-datum.mjs) off the statement by which the dump's own 'gosem.cut.vars' lays the variable. In a bare row this is a premise. The card (YtkfaoeobfigagaaGreatDoorCards.lean) ties it to the program's text. -/
def laid_math_bits_deBruijn32tab {H : Type} : DataW H := .agg [.lit (.int .u8 0), .lit (.int .u8 1), .lit (.int .u8 28), .lit (.int .u8 2), .lit (.int .u8 29), .lit (.int .u8 14), .lit (.int .u8 24), .lit (.int .u8 3), .lit (.int .u8 30), .lit (.int .u8 22), .lit (.int .u8 20), .lit (.int .u8 15), .lit (.int .u8 25), .lit (.int .u8 17), .lit (.int .u8 4), .lit (.int .u8 8), .lit (.int .u8 31), .lit (.int .u8 27), .lit (.int .u8 13), .lit (.int .u8 23), .lit (.int .u8 21), .lit (.int .u8 19), .lit (.int .u8 16), .lit (.int .u8 7), .lit (.int .u8 26), .lit (.int .u8 12), .lit (.int .u8 18), .lit (.int .u8 6), .lit (.int .u8 11), .lit (.int .u8 5), .lit (.int .u8 10), .lit (.int .u8 9)]
def laid_math_bits_deBruijn64tab {H : Type} : DataW H := .agg [.lit (.int .u8 0), .lit (.int .u8 1), .lit (.int .u8 56), .lit (.int .u8 2), .lit (.int .u8 57), .lit (.int .u8 49), .lit (.int .u8 28), .lit (.int .u8 3), .lit (.int .u8 61), .lit (.int .u8 58), .lit (.int .u8 42), .lit (.int .u8 50), .lit (.int .u8 38), .lit (.int .u8 29), .lit (.int .u8 17), .lit (.int .u8 4), .lit (.int .u8 62), .lit (.int .u8 47), .lit (.int .u8 59), .lit (.int .u8 36), .lit (.int .u8 45), .lit (.int .u8 43), .lit (.int .u8 51), .lit (.int .u8 22), .lit (.int .u8 53), .lit (.int .u8 39), .lit (.int .u8 33), .lit (.int .u8 30), .lit (.int .u8 24), .lit (.int .u8 18), .lit (.int .u8 12), .lit (.int .u8 5), .lit (.int .u8 63), .lit (.int .u8 55), .lit (.int .u8 48), .lit (.int .u8 27), .lit (.int .u8 60), .lit (.int .u8 41), .lit (.int .u8 37), .lit (.int .u8 16), .lit (.int .u8 46), .lit (.int .u8 35), .lit (.int .u8 44), .lit (.int .u8 21), .lit (.int .u8 52), .lit (.int .u8 32), .lit (.int .u8 23), .lit (.int .u8 11), .lit (.int .u8 54), .lit (.int .u8 26), .lit (.int .u8 40), .lit (.int .u8 15), .lit (.int .u8 34), .lit (.int .u8 20), .lit (.int .u8 31), .lit (.int .u8 10), .lit (.int .u8 25), .lit (.int .u8 14), .lit (.int .u8 19), .lit (.int .u8 9), .lit (.int .u8 13), .lit (.int .u8 8), .lit (.int .u8 7), .lit (.int .u8 6)]
def laid_internal_strconv_uint64pow10 {H : Type} : DataW H := .agg [.lit (.int .u64 1), .lit (.int .u64 10), .lit (.int .u64 100), .lit (.int .u64 1000), .lit (.int .u64 10000), .lit (.int .u64 100000), .lit (.int .u64 1000000), .lit (.int .u64 10000000), .lit (.int .u64 100000000), .lit (.int .u64 1000000000), .lit (.int .u64 10000000000), .lit (.int .u64 100000000000), .lit (.int .u64 1000000000000), .lit (.int .u64 10000000000000), .lit (.int .u64 100000000000000), .lit (.int .u64 1000000000000000), .lit (.int .u64 10000000000000000), .lit (.int .u64 100000000000000000), .lit (.int .u64 1000000000000000000), .lit (.int .u64 10000000000000000000)]
def laid_unicode_utf8_acceptRanges {H : Type} : DataW H := .agg [.agg [.lit (.int .u8 128), .lit (.int .u8 191)], .agg [.lit (.int .u8 160), .lit (.int .u8 191)], .agg [.lit (.int .u8 128), .lit (.int .u8 159)], .agg [.lit (.int .u8 144), .lit (.int .u8 191)], .agg [.lit (.int .u8 128), .lit (.int .u8 143)], .agg [.lit (.int .u8 0), .lit (.int .u8 0)], .agg [.lit (.int .u8 0), .lit (.int .u8 0)], .agg [.lit (.int .u8 0), .lit (.int .u8 0)], .agg [.lit (.int .u8 0), .lit (.int .u8 0)], .agg [.lit (.int .u8 0), .lit (.int .u8 0)], .agg [.lit (.int .u8 0), .lit (.int .u8 0)], .agg [.lit (.int .u8 0), .lit (.int .u8 0)], .agg [.lit (.int .u8 0), .lit (.int .u8 0)], .agg [.lit (.int .u8 0), .lit (.int .u8 0)], .agg [.lit (.int .u8 0), .lit (.int .u8 0)], .agg [.lit (.int .u8 0), .lit (.int .u8 0)]]
def laid_strconv_ErrRange {H : Type} : DataW H := .iface "*errors.errorString" (.ptr (.agg [.lit (.string [118, 97, 108, 117, 101, 32, 111, 117, 116, 32, 111, 102, 32, 114, 97, 110, 103, 101])]))
def laid_strconv_ErrSyntax {H : Type} : DataW H := .iface "*errors.errorString" (.ptr (.agg [.lit (.string [105, 110, 118, 97, 108, 105, 100, 32, 115, 121, 110, 116, 97, 120])]))
def laid_targum_tree_errTree {H : Type} : DataW H := .iface "*errors.errorString" (.ptr (.agg [.lit (.string [110, 111, 32, 116, 114, 101, 101])]))
def laid_targum_tree_errForm {H : Type} : DataW H := .iface "*errors.errorString" (.ptr (.agg [.lit (.string [110, 111, 32, 115, 117, 99, 104, 32, 102, 111, 114, 109])]))
def laid_targum_proj_errKeys {H : Type} : DataW H := .iface "*errors.errorString" (.ptr (.agg [.lit (.string [107, 101, 121, 115])]))
def laid_targum_proj_errTree {H : Type} : DataW H := .iface "*errors.errorString" (.ptr (.agg [.lit (.string [110, 111, 32, 116, 114, 101, 101])]))
/-- One of Go's own tables, pinned by name: the form's constant. -/
def laid_unicode_utf8_first : DataW Unit := Go.Pinned.utf8First

/-- 'targumlaw17.EmbedTakes': WHATEVER THE INPUT: true; the input reads as it did. -/
def embedTakesSpec : ChangeSpec := { name := "embedTakes", fn := fun _ => fun
  | [d1, d2] => { results := [.lit (.bool true)], args := [d1, d2] }
  | _ => none }
def embedTakesRow : OpenClaim := { program := "ytkfaoeobfigagaagreatdoor", sum := "fa0c6c792096515e37612405a3840c6fdb7c82eff881fbfd74f55c4d2b93932c", func := "targum/targumlaw17.EmbedTakes", spec := "embedTakes", inPlace := ["internal/bytealg.IndexByteString", "internal/bytealg.IndexString", "internal/abi.NoEscape", "internal/bytealg.MakeNoZero", "internal/reflectlite.TypeOf"], unfollowed := true, recurses := true, named := ["targum/proj.errTree", "targum/tree.errTree", "targum/tree.errForm", "unicode/utf8.first", "unicode/utf8.acceptRanges", "strconv.ErrSyntax", "strconv.ErrRange", "internal/strconv.uint64pow10", "math/bits.deBruijn32tab", "math/bits.deBruijn64tab", "targum/proj.errKeys", "internal/bytealg.MaxLen"], loops := true, plainKeys := false, apart := false, laid := [("math/bits.deBruijn32tab", laid_math_bits_deBruijn32tab), ("math/bits.deBruijn64tab", laid_math_bits_deBruijn64tab), ("internal/strconv.uint64pow10", laid_internal_strconv_uint64pow10), ("unicode/utf8.acceptRanges", laid_unicode_utf8_acceptRanges), ("strconv.ErrRange", laid_strconv_ErrRange), ("strconv.ErrSyntax", laid_strconv_ErrSyntax), ("targum/tree.errTree", laid_targum_tree_errTree), ("targum/tree.errForm", laid_targum_tree_errForm), ("targum/proj.errKeys", laid_targum_proj_errKeys), ("targum/proj.errTree", laid_targum_proj_errTree), ("unicode/utf8.first", laid_unicode_utf8_first)] }
def EmbedTakesSaid : Prop := embedTakesRow.holds Tryz.pinned (OpenSpec.ofChange embedTakesSpec)

/-- ITS FALSE NEIGHBOUR: 'it returns false'. Refute it at one input. -/
def embedTakesWrong : ChangeSpec := { name := "embedTakes", fn := fun _ => fun
  | [d1, d2] => { results := [.lit (.bool false)], args := [d1, d2] }
  | _ => none }
def EmbedTakesWrongFalsely : Prop := embedTakesRow.holds Tryz.pinned (OpenSpec.ofChange embedTakesWrong)

/-- 'targumlaw17.EmbedBack': WHATEVER THE INPUT: true; the input reads as it did. -/
def embedBackSpec : ChangeSpec := { name := "embedBack", fn := fun _ => fun
  | [d1, d2] => { results := [.lit (.bool true)], args := [d1, d2] }
  | _ => none }
def embedBackRow : OpenClaim := { program := "ytkfaoeobfigagaagreatdoor", sum := "fa0c6c792096515e37612405a3840c6fdb7c82eff881fbfd74f55c4d2b93932c", func := "targum/targumlaw17.EmbedBack", spec := "embedBack", inPlace := ["internal/bytealg.IndexByteString", "internal/bytealg.IndexString", "internal/abi.NoEscape", "internal/bytealg.MakeNoZero", "internal/reflectlite.TypeOf"], unfollowed := true, recurses := true, named := ["targum/proj.errTree", "targum/tree.errTree", "targum/tree.errForm", "unicode/utf8.first", "unicode/utf8.acceptRanges", "strconv.ErrSyntax", "strconv.ErrRange", "internal/strconv.uint64pow10", "math/bits.deBruijn32tab", "math/bits.deBruijn64tab", "targum/proj.errKeys", "internal/bytealg.MaxLen"], loops := true, plainKeys := false, apart := false, laid := [("math/bits.deBruijn32tab", laid_math_bits_deBruijn32tab), ("math/bits.deBruijn64tab", laid_math_bits_deBruijn64tab), ("internal/strconv.uint64pow10", laid_internal_strconv_uint64pow10), ("unicode/utf8.acceptRanges", laid_unicode_utf8_acceptRanges), ("strconv.ErrRange", laid_strconv_ErrRange), ("strconv.ErrSyntax", laid_strconv_ErrSyntax), ("targum/tree.errTree", laid_targum_tree_errTree), ("targum/tree.errForm", laid_targum_tree_errForm), ("targum/proj.errKeys", laid_targum_proj_errKeys), ("targum/proj.errTree", laid_targum_proj_errTree), ("unicode/utf8.first", laid_unicode_utf8_first)] }
def EmbedBackSaid : Prop := embedBackRow.holds Tryz.pinned (OpenSpec.ofChange embedBackSpec)

/-- ITS FALSE NEIGHBOUR: 'it returns false'. Refute it at one input. -/
def embedBackWrong : ChangeSpec := { name := "embedBack", fn := fun _ => fun
  | [d1, d2] => { results := [.lit (.bool false)], args := [d1, d2] }
  | _ => none }
def EmbedBackWrongFalsely : Prop := embedBackRow.holds Tryz.pinned (OpenSpec.ofChange embedBackWrong)

/-- 'targumlaw17.EmbedKeeps': WHATEVER THE INPUT: true; the input reads as it did. -/
def embedKeepsSpec : ChangeSpec := { name := "embedKeeps", fn := fun _ => fun
  | [d1, d2, d3] => { results := [.lit (.bool true)], args := [d1, d2, d3] }
  | _ => none }
def embedKeepsRow : OpenClaim := { program := "ytkfaoeobfigagaagreatdoor", sum := "fa0c6c792096515e37612405a3840c6fdb7c82eff881fbfd74f55c4d2b93932c", func := "targum/targumlaw17.EmbedKeeps", spec := "embedKeeps", inPlace := ["internal/bytealg.IndexByteString", "internal/bytealg.IndexString", "internal/abi.NoEscape", "internal/bytealg.MakeNoZero", "internal/reflectlite.TypeOf"], unfollowed := true, recurses := true, named := ["targum/proj.errTree", "targum/tree.errTree", "targum/tree.errForm", "unicode/utf8.first", "unicode/utf8.acceptRanges", "strconv.ErrSyntax", "strconv.ErrRange", "internal/strconv.uint64pow10", "math/bits.deBruijn32tab", "math/bits.deBruijn64tab", "targum/proj.errKeys", "internal/bytealg.MaxLen"], loops := true, plainKeys := false, apart := false, laid := [("math/bits.deBruijn32tab", laid_math_bits_deBruijn32tab), ("math/bits.deBruijn64tab", laid_math_bits_deBruijn64tab), ("internal/strconv.uint64pow10", laid_internal_strconv_uint64pow10), ("unicode/utf8.acceptRanges", laid_unicode_utf8_acceptRanges), ("strconv.ErrRange", laid_strconv_ErrRange), ("strconv.ErrSyntax", laid_strconv_ErrSyntax), ("targum/tree.errTree", laid_targum_tree_errTree), ("targum/tree.errForm", laid_targum_tree_errForm), ("targum/proj.errKeys", laid_targum_proj_errKeys), ("targum/proj.errTree", laid_targum_proj_errTree), ("unicode/utf8.first", laid_unicode_utf8_first)] }
def EmbedKeepsSaid : Prop := embedKeepsRow.holds Tryz.pinned (OpenSpec.ofChange embedKeepsSpec)

/-- ITS FALSE NEIGHBOUR: 'it returns false'. Refute it at one input. -/
def embedKeepsWrong : ChangeSpec := { name := "embedKeeps", fn := fun _ => fun
  | [d1, d2, d3] => { results := [.lit (.bool false)], args := [d1, d2, d3] }
  | _ => none }
def EmbedKeepsWrongFalsely : Prop := embedKeepsRow.holds Tryz.pinned (OpenSpec.ofChange embedKeepsWrong)

/-- 'targumlaw17.EmbedEdits': WHATEVER THE INPUT: true; the input reads as it did. -/
def embedEditsSpec : ChangeSpec := { name := "embedEdits", fn := fun _ => fun
  | [d1, d2, d3, d4] => { results := [.lit (.bool true)], args := [d1, d2, d3, d4] }
  | _ => none }
def embedEditsRow : OpenClaim := { program := "ytkfaoeobfigagaagreatdoor", sum := "fa0c6c792096515e37612405a3840c6fdb7c82eff881fbfd74f55c4d2b93932c", func := "targum/targumlaw17.EmbedEdits", spec := "embedEdits", inPlace := ["internal/bytealg.IndexByteString", "internal/bytealg.IndexString", "internal/abi.NoEscape", "internal/bytealg.MakeNoZero", "internal/reflectlite.TypeOf"], unfollowed := true, recurses := true, named := ["targum/proj.errTree", "targum/tree.errTree", "targum/tree.errForm", "unicode/utf8.first", "unicode/utf8.acceptRanges", "strconv.ErrSyntax", "strconv.ErrRange", "internal/strconv.uint64pow10", "math/bits.deBruijn32tab", "math/bits.deBruijn64tab", "targum/proj.errKeys", "internal/bytealg.MaxLen"], loops := true, plainKeys := false, apart := false, laid := [("math/bits.deBruijn32tab", laid_math_bits_deBruijn32tab), ("math/bits.deBruijn64tab", laid_math_bits_deBruijn64tab), ("internal/strconv.uint64pow10", laid_internal_strconv_uint64pow10), ("unicode/utf8.acceptRanges", laid_unicode_utf8_acceptRanges), ("strconv.ErrRange", laid_strconv_ErrRange), ("strconv.ErrSyntax", laid_strconv_ErrSyntax), ("targum/tree.errTree", laid_targum_tree_errTree), ("targum/tree.errForm", laid_targum_tree_errForm), ("targum/proj.errKeys", laid_targum_proj_errKeys), ("targum/proj.errTree", laid_targum_proj_errTree), ("unicode/utf8.first", laid_unicode_utf8_first)] }
def EmbedEditsSaid : Prop := embedEditsRow.holds Tryz.pinned (OpenSpec.ofChange embedEditsSpec)

/-- ITS FALSE NEIGHBOUR: 'it returns false'. Refute it at one input. -/
def embedEditsWrong : ChangeSpec := { name := "embedEdits", fn := fun _ => fun
  | [d1, d2, d3, d4] => { results := [.lit (.bool false)], args := [d1, d2, d3, d4] }
  | _ => none }
def EmbedEditsWrongFalsely : Prop := embedEditsRow.holds Tryz.pinned (OpenSpec.ofChange embedEditsWrong)

/-- 'targumlaw17.EmbedFirst': WHATEVER THE INPUT: true; the input reads as it did. -/
def embedFirstSpec : ChangeSpec := { name := "embedFirst", fn := fun _ => fun
  | [d1, d2, d3, d4] => { results := [.lit (.bool true)], args := [d1, d2, d3, d4] }
  | _ => none }
def embedFirstRow : OpenClaim := { program := "ytkfaoeobfigagaagreatdoor", sum := "fa0c6c792096515e37612405a3840c6fdb7c82eff881fbfd74f55c4d2b93932c", func := "targum/targumlaw17.EmbedFirst", spec := "embedFirst", inPlace := ["internal/bytealg.IndexByteString", "internal/bytealg.IndexString", "internal/abi.NoEscape", "internal/bytealg.MakeNoZero", "internal/reflectlite.TypeOf"], unfollowed := true, recurses := true, named := ["targum/proj.errTree", "targum/tree.errTree", "targum/tree.errForm", "unicode/utf8.first", "unicode/utf8.acceptRanges", "strconv.ErrSyntax", "strconv.ErrRange", "internal/strconv.uint64pow10", "math/bits.deBruijn32tab", "math/bits.deBruijn64tab", "targum/proj.errKeys", "internal/bytealg.MaxLen"], loops := true, plainKeys := false, apart := false, laid := [("math/bits.deBruijn32tab", laid_math_bits_deBruijn32tab), ("math/bits.deBruijn64tab", laid_math_bits_deBruijn64tab), ("internal/strconv.uint64pow10", laid_internal_strconv_uint64pow10), ("unicode/utf8.acceptRanges", laid_unicode_utf8_acceptRanges), ("strconv.ErrRange", laid_strconv_ErrRange), ("strconv.ErrSyntax", laid_strconv_ErrSyntax), ("targum/tree.errTree", laid_targum_tree_errTree), ("targum/tree.errForm", laid_targum_tree_errForm), ("targum/proj.errKeys", laid_targum_proj_errKeys), ("targum/proj.errTree", laid_targum_proj_errTree), ("unicode/utf8.first", laid_unicode_utf8_first)] }
def EmbedFirstSaid : Prop := embedFirstRow.holds Tryz.pinned (OpenSpec.ofChange embedFirstSpec)

/-- ITS FALSE NEIGHBOUR: 'it returns false'. Refute it at one input. -/
def embedFirstWrong : ChangeSpec := { name := "embedFirst", fn := fun _ => fun
  | [d1, d2, d3, d4] => { results := [.lit (.bool false)], args := [d1, d2, d3, d4] }
  | _ => none }
def EmbedFirstWrongFalsely : Prop := embedFirstRow.holds Tryz.pinned (OpenSpec.ofChange embedFirstWrong)

/-- 'targumlaw17.EmbedShells': WHATEVER THE INPUT: true; the input reads as it did. -/
def embedShellsSpec : ChangeSpec := { name := "embedShells", fn := fun _ => fun
  | [d] => { results := [.lit (.bool true)], args := [d] }
  | _ => none }
def embedShellsRow : OpenClaim := { program := "ytkfaoeobfigagaagreatdoor", sum := "fa0c6c792096515e37612405a3840c6fdb7c82eff881fbfd74f55c4d2b93932c", func := "targum/targumlaw17.EmbedShells", spec := "embedShells", inPlace := ["internal/bytealg.IndexByteString", "internal/bytealg.IndexString", "internal/abi.NoEscape", "internal/bytealg.MakeNoZero", "internal/reflectlite.TypeOf"], unfollowed := true, recurses := true, named := ["targum/proj.errTree", "targum/tree.errTree", "targum/tree.errForm", "unicode/utf8.first", "unicode/utf8.acceptRanges", "strconv.ErrSyntax", "strconv.ErrRange", "internal/strconv.uint64pow10", "math/bits.deBruijn32tab", "math/bits.deBruijn64tab", "targum/proj.errKeys", "internal/bytealg.MaxLen"], loops := true, plainKeys := false, apart := false, laid := [("math/bits.deBruijn32tab", laid_math_bits_deBruijn32tab), ("math/bits.deBruijn64tab", laid_math_bits_deBruijn64tab), ("internal/strconv.uint64pow10", laid_internal_strconv_uint64pow10), ("unicode/utf8.acceptRanges", laid_unicode_utf8_acceptRanges), ("strconv.ErrRange", laid_strconv_ErrRange), ("strconv.ErrSyntax", laid_strconv_ErrSyntax), ("targum/tree.errTree", laid_targum_tree_errTree), ("targum/tree.errForm", laid_targum_tree_errForm), ("targum/proj.errKeys", laid_targum_proj_errKeys), ("targum/proj.errTree", laid_targum_proj_errTree), ("unicode/utf8.first", laid_unicode_utf8_first)] }
def EmbedShellsSaid : Prop := embedShellsRow.holds Tryz.pinned (OpenSpec.ofChange embedShellsSpec)

/-- ITS FALSE NEIGHBOUR: 'it returns false'. Refute it at one input. -/
def embedShellsWrong : ChangeSpec := { name := "embedShells", fn := fun _ => fun
  | [d] => { results := [.lit (.bool false)], args := [d] }
  | _ => none }
def EmbedShellsWrongFalsely : Prop := embedShellsRow.holds Tryz.pinned (OpenSpec.ofChange embedShellsWrong)

/-- 'targumlaw17.EmbedNone': WHATEVER THE INPUT: true; the input reads as it did. -/
def embedNoneSpec : ChangeSpec := { name := "embedNone", fn := fun _ => fun
  | [d1, d2] => { results := [.lit (.bool true)], args := [d1, d2] }
  | _ => none }
def embedNoneRow : OpenClaim := { program := "ytkfaoeobfigagaagreatdoor", sum := "fa0c6c792096515e37612405a3840c6fdb7c82eff881fbfd74f55c4d2b93932c", func := "targum/targumlaw17.EmbedNone", spec := "embedNone", inPlace := ["internal/bytealg.IndexByteString", "internal/bytealg.IndexString", "internal/abi.NoEscape", "internal/bytealg.MakeNoZero", "internal/reflectlite.TypeOf"], unfollowed := true, recurses := true, named := ["targum/proj.errTree", "targum/tree.errTree", "targum/tree.errForm", "unicode/utf8.first", "unicode/utf8.acceptRanges", "strconv.ErrSyntax", "strconv.ErrRange", "internal/strconv.uint64pow10", "math/bits.deBruijn32tab", "math/bits.deBruijn64tab", "targum/proj.errKeys", "internal/bytealg.MaxLen"], loops := true, plainKeys := false, apart := false, laid := [("math/bits.deBruijn32tab", laid_math_bits_deBruijn32tab), ("math/bits.deBruijn64tab", laid_math_bits_deBruijn64tab), ("internal/strconv.uint64pow10", laid_internal_strconv_uint64pow10), ("unicode/utf8.acceptRanges", laid_unicode_utf8_acceptRanges), ("strconv.ErrRange", laid_strconv_ErrRange), ("strconv.ErrSyntax", laid_strconv_ErrSyntax), ("targum/tree.errTree", laid_targum_tree_errTree), ("targum/tree.errForm", laid_targum_tree_errForm), ("targum/proj.errKeys", laid_targum_proj_errKeys), ("targum/proj.errTree", laid_targum_proj_errTree), ("unicode/utf8.first", laid_unicode_utf8_first)] }
def EmbedNoneSaid : Prop := embedNoneRow.holds Tryz.pinned (OpenSpec.ofChange embedNoneSpec)

/-- ITS FALSE NEIGHBOUR: 'it returns false'. Refute it at one input. -/
def embedNoneWrong : ChangeSpec := { name := "embedNone", fn := fun _ => fun
  | [d1, d2] => { results := [.lit (.bool false)], args := [d1, d2] }
  | _ => none }
def EmbedNoneWrongFalsely : Prop := embedNoneRow.holds Tryz.pinned (OpenSpec.ofChange embedNoneWrong)

/- THE SECOND FORM. 'bulk': how many values and letters a reading holds, each counted each time it is reached (what is shared counts as often as it is met; a slice's spare places count too). A statement '..UptoSaid' is the law's where the arguments, and the package variables that the reading takes, are together of bulk at most 1048576: NARROWER than '..Said'. Prove '..Said' where nothing that the law and all that it calls make is longer than what came in: it says more and counts as full. Else prove '..UptoSaid'. A law counts once. -/
mutual
def uptoBulk {H : Type} : DataW H → Nat
  | .lit (.string bytes) => bytes.length + 1
  | .lit _ => 1
  | .nil => 1
  | .ptr d => uptoBulk d + 1
  | .slice elems spare => uptoBulkAll elems + uptoBulkAll spare + 1
  | .agg parts => uptoBulkAll parts + 1
  | .iface _ d => uptoBulk d + 1
  | .map entries => uptoBulkEntries entries + 1
  | .held _ => 1
def uptoBulkAll {H : Type} : List (DataW H) → Nat
  | [] => 0
  | d :: r => uptoBulk d + uptoBulkAll r
def uptoBulkEntries {H : Type} : List (Lit × DataW H) → Nat
  | [] => 0
  | x :: r => uptoBulkEntry x + uptoBulkEntries r
def uptoBulkEntry {H : Type} : Lit × DataW H → Nat
  | (.string bytes, d) => bytes.length + uptoBulk d + 1
  | (_, d) => uptoBulk d + 1
 end
def uptoSmall : (H : Type) → List (DataW H) → Bool := fun _ ds => decide (uptoBulkAll ds ≤ 1048576)
def OpenSpec.upto (s : _root_.Go.ChangeSpec) : _root_.Go.OpenSpec := { _root_.Go.OpenSpec.ofChange s with cond := some uptoSmall }

/-- 'targumlaw17.EmbedTakes', WHERE WHAT IT READS IS OF BULK AT MOST 1048576: true; the input reads as it did. -/
def embedTakesUptoRow : OpenClaim := { program := "ytkfaoeobfigagaagreatdoor", sum := "fa0c6c792096515e37612405a3840c6fdb7c82eff881fbfd74f55c4d2b93932c", func := "targum/targumlaw17.EmbedTakes", spec := "embedTakes", inPlace := ["internal/bytealg.IndexByteString", "internal/bytealg.IndexString", "internal/abi.NoEscape", "internal/bytealg.MakeNoZero", "internal/reflectlite.TypeOf"], unfollowed := true, recurses := true, named := ["targum/proj.errTree", "targum/tree.errTree", "targum/tree.errForm", "unicode/utf8.first", "unicode/utf8.acceptRanges", "strconv.ErrSyntax", "strconv.ErrRange", "internal/strconv.uint64pow10", "math/bits.deBruijn32tab", "math/bits.deBruijn64tab", "targum/proj.errKeys", "internal/bytealg.MaxLen"], loops := true, plainKeys := false, apart := false, laid := [("math/bits.deBruijn32tab", laid_math_bits_deBruijn32tab), ("math/bits.deBruijn64tab", laid_math_bits_deBruijn64tab), ("internal/strconv.uint64pow10", laid_internal_strconv_uint64pow10), ("unicode/utf8.acceptRanges", laid_unicode_utf8_acceptRanges), ("strconv.ErrRange", laid_strconv_ErrRange), ("strconv.ErrSyntax", laid_strconv_ErrSyntax), ("targum/tree.errTree", laid_targum_tree_errTree), ("targum/tree.errForm", laid_targum_tree_errForm), ("targum/proj.errKeys", laid_targum_proj_errKeys), ("targum/proj.errTree", laid_targum_proj_errTree), ("unicode/utf8.first", laid_unicode_utf8_first)], narrowed := true }
def EmbedTakesUptoSaid : Prop := embedTakesUptoRow.holds Tryz.pinned (OpenSpec.upto embedTakesSpec)

/-- 'targumlaw17.EmbedBack', WHERE WHAT IT READS IS OF BULK AT MOST 1048576: true; the input reads as it did. -/
def embedBackUptoRow : OpenClaim := { program := "ytkfaoeobfigagaagreatdoor", sum := "fa0c6c792096515e37612405a3840c6fdb7c82eff881fbfd74f55c4d2b93932c", func := "targum/targumlaw17.EmbedBack", spec := "embedBack", inPlace := ["internal/bytealg.IndexByteString", "internal/bytealg.IndexString", "internal/abi.NoEscape", "internal/bytealg.MakeNoZero", "internal/reflectlite.TypeOf"], unfollowed := true, recurses := true, named := ["targum/proj.errTree", "targum/tree.errTree", "targum/tree.errForm", "unicode/utf8.first", "unicode/utf8.acceptRanges", "strconv.ErrSyntax", "strconv.ErrRange", "internal/strconv.uint64pow10", "math/bits.deBruijn32tab", "math/bits.deBruijn64tab", "targum/proj.errKeys", "internal/bytealg.MaxLen"], loops := true, plainKeys := false, apart := false, laid := [("math/bits.deBruijn32tab", laid_math_bits_deBruijn32tab), ("math/bits.deBruijn64tab", laid_math_bits_deBruijn64tab), ("internal/strconv.uint64pow10", laid_internal_strconv_uint64pow10), ("unicode/utf8.acceptRanges", laid_unicode_utf8_acceptRanges), ("strconv.ErrRange", laid_strconv_ErrRange), ("strconv.ErrSyntax", laid_strconv_ErrSyntax), ("targum/tree.errTree", laid_targum_tree_errTree), ("targum/tree.errForm", laid_targum_tree_errForm), ("targum/proj.errKeys", laid_targum_proj_errKeys), ("targum/proj.errTree", laid_targum_proj_errTree), ("unicode/utf8.first", laid_unicode_utf8_first)], narrowed := true }
def EmbedBackUptoSaid : Prop := embedBackUptoRow.holds Tryz.pinned (OpenSpec.upto embedBackSpec)

/-- 'targumlaw17.EmbedKeeps', WHERE WHAT IT READS IS OF BULK AT MOST 1048576: true; the input reads as it did. -/
def embedKeepsUptoRow : OpenClaim := { program := "ytkfaoeobfigagaagreatdoor", sum := "fa0c6c792096515e37612405a3840c6fdb7c82eff881fbfd74f55c4d2b93932c", func := "targum/targumlaw17.EmbedKeeps", spec := "embedKeeps", inPlace := ["internal/bytealg.IndexByteString", "internal/bytealg.IndexString", "internal/abi.NoEscape", "internal/bytealg.MakeNoZero", "internal/reflectlite.TypeOf"], unfollowed := true, recurses := true, named := ["targum/proj.errTree", "targum/tree.errTree", "targum/tree.errForm", "unicode/utf8.first", "unicode/utf8.acceptRanges", "strconv.ErrSyntax", "strconv.ErrRange", "internal/strconv.uint64pow10", "math/bits.deBruijn32tab", "math/bits.deBruijn64tab", "targum/proj.errKeys", "internal/bytealg.MaxLen"], loops := true, plainKeys := false, apart := false, laid := [("math/bits.deBruijn32tab", laid_math_bits_deBruijn32tab), ("math/bits.deBruijn64tab", laid_math_bits_deBruijn64tab), ("internal/strconv.uint64pow10", laid_internal_strconv_uint64pow10), ("unicode/utf8.acceptRanges", laid_unicode_utf8_acceptRanges), ("strconv.ErrRange", laid_strconv_ErrRange), ("strconv.ErrSyntax", laid_strconv_ErrSyntax), ("targum/tree.errTree", laid_targum_tree_errTree), ("targum/tree.errForm", laid_targum_tree_errForm), ("targum/proj.errKeys", laid_targum_proj_errKeys), ("targum/proj.errTree", laid_targum_proj_errTree), ("unicode/utf8.first", laid_unicode_utf8_first)], narrowed := true }
def EmbedKeepsUptoSaid : Prop := embedKeepsUptoRow.holds Tryz.pinned (OpenSpec.upto embedKeepsSpec)

/-- 'targumlaw17.EmbedEdits', WHERE WHAT IT READS IS OF BULK AT MOST 1048576: true; the input reads as it did. -/
def embedEditsUptoRow : OpenClaim := { program := "ytkfaoeobfigagaagreatdoor", sum := "fa0c6c792096515e37612405a3840c6fdb7c82eff881fbfd74f55c4d2b93932c", func := "targum/targumlaw17.EmbedEdits", spec := "embedEdits", inPlace := ["internal/bytealg.IndexByteString", "internal/bytealg.IndexString", "internal/abi.NoEscape", "internal/bytealg.MakeNoZero", "internal/reflectlite.TypeOf"], unfollowed := true, recurses := true, named := ["targum/proj.errTree", "targum/tree.errTree", "targum/tree.errForm", "unicode/utf8.first", "unicode/utf8.acceptRanges", "strconv.ErrSyntax", "strconv.ErrRange", "internal/strconv.uint64pow10", "math/bits.deBruijn32tab", "math/bits.deBruijn64tab", "targum/proj.errKeys", "internal/bytealg.MaxLen"], loops := true, plainKeys := false, apart := false, laid := [("math/bits.deBruijn32tab", laid_math_bits_deBruijn32tab), ("math/bits.deBruijn64tab", laid_math_bits_deBruijn64tab), ("internal/strconv.uint64pow10", laid_internal_strconv_uint64pow10), ("unicode/utf8.acceptRanges", laid_unicode_utf8_acceptRanges), ("strconv.ErrRange", laid_strconv_ErrRange), ("strconv.ErrSyntax", laid_strconv_ErrSyntax), ("targum/tree.errTree", laid_targum_tree_errTree), ("targum/tree.errForm", laid_targum_tree_errForm), ("targum/proj.errKeys", laid_targum_proj_errKeys), ("targum/proj.errTree", laid_targum_proj_errTree), ("unicode/utf8.first", laid_unicode_utf8_first)], narrowed := true }
def EmbedEditsUptoSaid : Prop := embedEditsUptoRow.holds Tryz.pinned (OpenSpec.upto embedEditsSpec)

/-- 'targumlaw17.EmbedFirst', WHERE WHAT IT READS IS OF BULK AT MOST 1048576: true; the input reads as it did. -/
def embedFirstUptoRow : OpenClaim := { program := "ytkfaoeobfigagaagreatdoor", sum := "fa0c6c792096515e37612405a3840c6fdb7c82eff881fbfd74f55c4d2b93932c", func := "targum/targumlaw17.EmbedFirst", spec := "embedFirst", inPlace := ["internal/bytealg.IndexByteString", "internal/bytealg.IndexString", "internal/abi.NoEscape", "internal/bytealg.MakeNoZero", "internal/reflectlite.TypeOf"], unfollowed := true, recurses := true, named := ["targum/proj.errTree", "targum/tree.errTree", "targum/tree.errForm", "unicode/utf8.first", "unicode/utf8.acceptRanges", "strconv.ErrSyntax", "strconv.ErrRange", "internal/strconv.uint64pow10", "math/bits.deBruijn32tab", "math/bits.deBruijn64tab", "targum/proj.errKeys", "internal/bytealg.MaxLen"], loops := true, plainKeys := false, apart := false, laid := [("math/bits.deBruijn32tab", laid_math_bits_deBruijn32tab), ("math/bits.deBruijn64tab", laid_math_bits_deBruijn64tab), ("internal/strconv.uint64pow10", laid_internal_strconv_uint64pow10), ("unicode/utf8.acceptRanges", laid_unicode_utf8_acceptRanges), ("strconv.ErrRange", laid_strconv_ErrRange), ("strconv.ErrSyntax", laid_strconv_ErrSyntax), ("targum/tree.errTree", laid_targum_tree_errTree), ("targum/tree.errForm", laid_targum_tree_errForm), ("targum/proj.errKeys", laid_targum_proj_errKeys), ("targum/proj.errTree", laid_targum_proj_errTree), ("unicode/utf8.first", laid_unicode_utf8_first)], narrowed := true }
def EmbedFirstUptoSaid : Prop := embedFirstUptoRow.holds Tryz.pinned (OpenSpec.upto embedFirstSpec)

/-- 'targumlaw17.EmbedShells', WHERE WHAT IT READS IS OF BULK AT MOST 1048576: true; the input reads as it did. -/
def embedShellsUptoRow : OpenClaim := { program := "ytkfaoeobfigagaagreatdoor", sum := "fa0c6c792096515e37612405a3840c6fdb7c82eff881fbfd74f55c4d2b93932c", func := "targum/targumlaw17.EmbedShells", spec := "embedShells", inPlace := ["internal/bytealg.IndexByteString", "internal/bytealg.IndexString", "internal/abi.NoEscape", "internal/bytealg.MakeNoZero", "internal/reflectlite.TypeOf"], unfollowed := true, recurses := true, named := ["targum/proj.errTree", "targum/tree.errTree", "targum/tree.errForm", "unicode/utf8.first", "unicode/utf8.acceptRanges", "strconv.ErrSyntax", "strconv.ErrRange", "internal/strconv.uint64pow10", "math/bits.deBruijn32tab", "math/bits.deBruijn64tab", "targum/proj.errKeys", "internal/bytealg.MaxLen"], loops := true, plainKeys := false, apart := false, laid := [("math/bits.deBruijn32tab", laid_math_bits_deBruijn32tab), ("math/bits.deBruijn64tab", laid_math_bits_deBruijn64tab), ("internal/strconv.uint64pow10", laid_internal_strconv_uint64pow10), ("unicode/utf8.acceptRanges", laid_unicode_utf8_acceptRanges), ("strconv.ErrRange", laid_strconv_ErrRange), ("strconv.ErrSyntax", laid_strconv_ErrSyntax), ("targum/tree.errTree", laid_targum_tree_errTree), ("targum/tree.errForm", laid_targum_tree_errForm), ("targum/proj.errKeys", laid_targum_proj_errKeys), ("targum/proj.errTree", laid_targum_proj_errTree), ("unicode/utf8.first", laid_unicode_utf8_first)], narrowed := true }
def EmbedShellsUptoSaid : Prop := embedShellsUptoRow.holds Tryz.pinned (OpenSpec.upto embedShellsSpec)

/-- 'targumlaw17.EmbedNone', WHERE WHAT IT READS IS OF BULK AT MOST 1048576: true; the input reads as it did. -/
def embedNoneUptoRow : OpenClaim := { program := "ytkfaoeobfigagaagreatdoor", sum := "fa0c6c792096515e37612405a3840c6fdb7c82eff881fbfd74f55c4d2b93932c", func := "targum/targumlaw17.EmbedNone", spec := "embedNone", inPlace := ["internal/bytealg.IndexByteString", "internal/bytealg.IndexString", "internal/abi.NoEscape", "internal/bytealg.MakeNoZero", "internal/reflectlite.TypeOf"], unfollowed := true, recurses := true, named := ["targum/proj.errTree", "targum/tree.errTree", "targum/tree.errForm", "unicode/utf8.first", "unicode/utf8.acceptRanges", "strconv.ErrSyntax", "strconv.ErrRange", "internal/strconv.uint64pow10", "math/bits.deBruijn32tab", "math/bits.deBruijn64tab", "targum/proj.errKeys", "internal/bytealg.MaxLen"], loops := true, plainKeys := false, apart := false, laid := [("math/bits.deBruijn32tab", laid_math_bits_deBruijn32tab), ("math/bits.deBruijn64tab", laid_math_bits_deBruijn64tab), ("internal/strconv.uint64pow10", laid_internal_strconv_uint64pow10), ("unicode/utf8.acceptRanges", laid_unicode_utf8_acceptRanges), ("strconv.ErrRange", laid_strconv_ErrRange), ("strconv.ErrSyntax", laid_strconv_ErrSyntax), ("targum/tree.errTree", laid_targum_tree_errTree), ("targum/tree.errForm", laid_targum_tree_errForm), ("targum/proj.errKeys", laid_targum_proj_errKeys), ("targum/proj.errTree", laid_targum_proj_errTree), ("unicode/utf8.first", laid_unicode_utf8_first)], narrowed := true }
def EmbedNoneUptoSaid : Prop := embedNoneUptoRow.holds Tryz.pinned (OpenSpec.upto embedNoneSpec)

end Rows
end Go.Proofs.YtkfaoeobfigagaaGreatDoor
