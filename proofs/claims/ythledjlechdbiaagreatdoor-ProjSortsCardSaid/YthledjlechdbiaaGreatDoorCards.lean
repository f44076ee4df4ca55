/-
  DERIVED. GIVEN WITH THE SEED: THE CARDS: each row of YthledjlechdbiaaGreatDoorRows.lean that lists a variable, with what it lists TIED to the program's text (the seventh form; the later family's looks); each row that meets fmt, with fmt's text TOLD by the authors' own Lean function (tested against real Go, not proved from fmt's source: count such statements apart). THE CARD IS WHAT COUNTS. Prove the row's statement (the work); the ties are given (YthledjlechdbiaaGreatDoorTie.lean); close each card by the builder's one call (the guide's Derived/Test/ToyasCard.lean, 'card_holds'). Laid BY PROGRAM, IN A SANDBOX (cutbox-door.mjs). By AI agents, Wed Nov 11 2026. No macro, syntax, notation, axiom, sorry.
-/
import Derived.Test.YthledjlechdbiaaGreatDoorRows
import GoSem.ClaimSeven
namespace Go.Proofs.YthledjlechdbiaaGreatDoor
namespace Rows

/-- THE TIED CARD OF 'targumlaw16.ProjTags'. -/
def projTagsCard : Claim7 := { stood := { row := projTagsRow, standIns := [], harness := (true, "bc0fd6d5a903216d2f51630207dfbf29139dc5e21c0ea4f105db312140cff28d"), looks := true }, kinds := [], alts := [], laidByText := true, laidKinds := [.data, .data, .data, .data, .sentinel, .sentinel, .sentinel, .sentinel, .sentinel, .sentinel, .pinned], laidTests := true, laidLooks := .later }
def ProjTagsCardSaid : Prop := Claim7.holds Tryz.pinned (.plain (OpenSpec.ofChange projTagsSpec)) projTagsCard

/-- THE TIED CARD OF 'targumlaw16.ProjTurns'. -/
def projTurnsCard : Claim7 := { stood := { row := projTurnsRow, standIns := [], harness := (true, "bc0fd6d5a903216d2f51630207dfbf29139dc5e21c0ea4f105db312140cff28d"), looks := true }, kinds := [], alts := [], laidByText := true, laidKinds := [.data, .data, .data, .data, .sentinel, .sentinel, .sentinel, .sentinel, .sentinel, .sentinel, .pinned], laidTests := true, laidLooks := .later }
def ProjTurnsCardSaid : Prop := Claim7.holds Tryz.pinned (.plain (OpenSpec.ofChange projTurnsSpec)) projTurnsCard

/-- THE TIED CARD OF 'targumlaw16.ProjArrays'. -/
def projArraysCard : Claim7 := { stood := { row := projArraysRow, standIns := [], harness := (true, "bc0fd6d5a903216d2f51630207dfbf29139dc5e21c0ea4f105db312140cff28d"), looks := true }, kinds := [], alts := [], laidByText := true, laidKinds := [.data, .data, .data, .data, .sentinel, .sentinel, .sentinel, .sentinel, .sentinel, .sentinel, .pinned], laidTests := true, laidLooks := .later }
def ProjArraysCardSaid : Prop := Claim7.holds Tryz.pinned (.plain (OpenSpec.ofChange projArraysSpec)) projArraysCard

/-- THE TIED CARD OF 'targumlaw16.ProjSorts'. -/
def projSortsCard : Claim7 := { stood := { row := projSortsRow, standIns := [], harness := (true, "bc0fd6d5a903216d2f51630207dfbf29139dc5e21c0ea4f105db312140cff28d"), looks := true }, kinds := [], alts := [], laidByText := true, laidKinds := [.data, .data, .data, .data, .sentinel, .sentinel, .sentinel, .sentinel, .sentinel, .sentinel, .pinned], laidTests := true, laidLooks := .later }
def ProjSortsCardSaid : Prop := Claim7.holds Tryz.pinned (.plain (OpenSpec.ofChange projSortsSpec)) projSortsCard

/-- THE TIED CARD OF 'targumlaw16.ProjTwice'. -/
def projTwiceCard : Claim7 := { stood := { row := projTwiceRow, standIns := [], harness := (true, "bc0fd6d5a903216d2f51630207dfbf29139dc5e21c0ea4f105db312140cff28d"), looks := true }, kinds := [], alts := [], laidByText := true, laidKinds := [.data, .data, .data, .data, .sentinel, .sentinel, .sentinel, .sentinel, .sentinel, .sentinel, .pinned], laidTests := true, laidLooks := .later }
def ProjTwiceCardSaid : Prop := Claim7.holds Tryz.pinned (.plain (OpenSpec.ofChange projTwiceSpec)) projTwiceCard

/-- THE TIED CARD OF 'targumlaw16.ProjSettled'. -/
def projSettledCard : Claim7 := { stood := { row := projSettledRow, standIns := [], harness := (true, "bc0fd6d5a903216d2f51630207dfbf29139dc5e21c0ea4f105db312140cff28d"), looks := true }, kinds := [], alts := [], laidByText := true, laidKinds := [.data, .data, .data, .data, .sentinel, .sentinel, .sentinel, .sentinel, .sentinel, .sentinel, .pinned], laidTests := true, laidLooks := .later }
def ProjSettledCardSaid : Prop := Claim7.holds Tryz.pinned (.plain (OpenSpec.ofChange projSettledSpec)) projSettledCard

/-- THE SECOND FORM's CARD OF 'targumlaw16.ProjTags'. -/
def projTagsUptoCard : Claim7 := { stood := { row := projTagsUptoRow, standIns := [], harness := (true, "bc0fd6d5a903216d2f51630207dfbf29139dc5e21c0ea4f105db312140cff28d"), looks := true }, kinds := [], alts := [], laidByText := true, laidKinds := [.data, .data, .data, .data, .sentinel, .sentinel, .sentinel, .sentinel, .sentinel, .sentinel, .pinned], laidTests := true, laidLooks := .later }
def ProjTagsUptoCardSaid : Prop := Claim7.holds Tryz.pinned (.plain (OpenSpec.upto projTagsSpec)) projTagsUptoCard

/-- THE SECOND FORM's CARD OF 'targumlaw16.ProjTurns'. -/
def projTurnsUptoCard : Claim7 := { stood := { row := projTurnsUptoRow, standIns := [], harness := (true, "bc0fd6d5a903216d2f51630207dfbf29139dc5e21c0ea4f105db312140cff28d"), looks := true }, kinds := [], alts := [], laidByText := true, laidKinds := [.data, .data, .data, .data, .sentinel, .sentinel, .sentinel, .sentinel, .sentinel, .sentinel, .pinned], laidTests := true, laidLooks := .later }
def ProjTurnsUptoCardSaid : Prop := Claim7.holds Tryz.pinned (.plain (OpenSpec.upto projTurnsSpec)) projTurnsUptoCard

/-- THE SECOND FORM's CARD OF 'targumlaw16.ProjArrays'. -/
def projArraysUptoCard : Claim7 := { stood := { row := projArraysUptoRow, standIns := [], harness := (true, "bc0fd6d5a903216d2f51630207dfbf29139dc5e21c0ea4f105db312140cff28d"), looks := true }, kinds := [], alts := [], laidByText := true, laidKinds := [.data, .data, .data, .data, .sentinel, .sentinel, .sentinel, .sentinel, .sentinel, .sentinel, .pinned], laidTests := true, laidLooks := .later }
def ProjArraysUptoCardSaid : Prop := Claim7.holds Tryz.pinned (.plain (OpenSpec.upto projArraysSpec)) projArraysUptoCard

/-- THE SECOND FORM's CARD OF 'targumlaw16.ProjSorts'. -/
def projSortsUptoCard : Claim7 := { stood := { row := projSortsUptoRow, standIns := [], harness := (true, "bc0fd6d5a903216d2f51630207dfbf29139dc5e21c0ea4f105db312140cff28d"), looks := true }, kinds := [], alts := [], laidByText := true, laidKinds := [.data, .data, .data, .data, .sentinel, .sentinel, .sentinel, .sentinel, .sentinel, .sentinel, .pinned], laidTests := true, laidLooks := .later }
def ProjSortsUptoCardSaid : Prop := Claim7.holds Tryz.pinned (.plain (OpenSpec.upto projSortsSpec)) projSortsUptoCard

/-- THE SECOND FORM's CARD OF 'targumlaw16.ProjTwice'. -/
def projTwiceUptoCard : Claim7 := { stood := { row := projTwiceUptoRow, standIns := [], harness := (true, "bc0fd6d5a903216d2f51630207dfbf29139dc5e21c0ea4f105db312140cff28d"), looks := true }, kinds := [], alts := [], laidByText := true, laidKinds := [.data, .data, .data, .data, .sentinel, .sentinel, .sentinel, .sentinel, .sentinel, .sentinel, .pinned], laidTests := true, laidLooks := .later }
def ProjTwiceUptoCardSaid : Prop := Claim7.holds Tryz.pinned (.plain (OpenSpec.upto projTwiceSpec)) projTwiceUptoCard

/-- THE SECOND FORM's CARD OF 'targumlaw16.ProjSettled'. -/
def projSettledUptoCard : Claim7 := { stood := { row := projSettledUptoRow, standIns := [], harness := (true, "bc0fd6d5a903216d2f51630207dfbf29139dc5e21c0ea4f105db312140cff28d"), looks := true }, kinds := [], alts := [], laidByText := true, laidKinds := [.data, .data, .data, .data, .sentinel, .sentinel, .sentinel, .sentinel, .sentinel, .sentinel, .pinned], laidTests := true, laidLooks := .later }
def ProjSettledUptoCardSaid : Prop := Claim7.holds Tryz.pinned (.plain (OpenSpec.upto projSettledSpec)) projSettledUptoCard
end Rows
end Go.Proofs.YthledjlechdbiaaGreatDoor
