/-
  DERIVED. GIVEN WITH THE SEED: THE CARDS: each row of YtkfaoeobfigagaaGreatDoorRows.lean that lists a variable, with what it lists TIED to the program's text (the seventh form; the later family's looks); each row that meets fmt, with fmt's text TOLD by the authors' own Lean function (tested against real Go, not proved from fmt's source: count such statements apart). THE CARD IS WHAT COUNTS. Prove the row's statement (the work); the ties are given (YtkfaoeobfigagaaGreatDoorTie.lean); close each card by the builder's one call (the guide's Derived/Test/ToyasCard.lean, 'card_holds'). Laid BY PROGRAM, IN A SANDBOX (cutbox-door.mjs). By AI agents, Wed Nov 11 2026. No macro, syntax, notation, axiom, sorry.
-/
import Derived.Test.YtkfaoeobfigagaaGreatDoorRows
import GoSem.ClaimSeven
namespace Go.Proofs.YtkfaoeobfigagaaGreatDoor
namespace Rows

/-- THE TIED CARD OF 'targumlaw17.EmbedTakes'. -/
def embedTakesCard : Claim7 := { stood := { row := embedTakesRow, standIns := [], harness := (true, "f368450c9e4511376666646a2d596c389efb2a28fde8ac71d77d268be9f6aea4"), looks := true }, kinds := [], alts := [], laidByText := true, laidKinds := [.data, .data, .data, .data, .sentinel, .sentinel, .sentinel, .sentinel, .sentinel, .sentinel, .pinned], laidTests := true, laidLooks := .later }
def EmbedTakesCardSaid : Prop := Claim7.holds Tryz.pinned (.plain (OpenSpec.ofChange embedTakesSpec)) embedTakesCard

/-- THE TIED CARD OF 'targumlaw17.EmbedBack'. -/
def embedBackCard : Claim7 := { stood := { row := embedBackRow, standIns := [], harness := (true, "f368450c9e4511376666646a2d596c389efb2a28fde8ac71d77d268be9f6aea4"), looks := true }, kinds := [], alts := [], laidByText := true, laidKinds := [.data, .data, .data, .data, .sentinel, .sentinel, .sentinel, .sentinel, .sentinel, .sentinel, .pinned], laidTests := true, laidLooks := .later }
def EmbedBackCardSaid : Prop := Claim7.holds Tryz.pinned (.plain (OpenSpec.ofChange embedBackSpec)) embedBackCard

/-- THE TIED CARD OF 'targumlaw17.EmbedKeeps'. -/
def embedKeepsCard : Claim7 := { stood := { row := embedKeepsRow, standIns := [], harness := (true, "f368450c9e4511376666646a2d596c389efb2a28fde8ac71d77d268be9f6aea4"), looks := true }, kinds := [], alts := [], laidByText := true, laidKinds := [.data, .data, .data, .data, .sentinel, .sentinel, .sentinel, .sentinel, .sentinel, .sentinel, .pinned], laidTests := true, laidLooks := .later }
def EmbedKeepsCardSaid : Prop := Claim7.holds Tryz.pinned (.plain (OpenSpec.ofChange embedKeepsSpec)) embedKeepsCard

/-- THE TIED CARD OF 'targumlaw17.EmbedEdits'. -/
def embedEditsCard : Claim7 := { stood := { row := embedEditsRow, standIns := [], harness := (true, "f368450c9e4511376666646a2d596c389efb2a28fde8ac71d77d268be9f6aea4"), looks := true }, kinds := [], alts := [], laidByText := true, laidKinds := [.data, .data, .data, .data, .sentinel, .sentinel, .sentinel, .sentinel, .sentinel, .sentinel, .pinned], laidTests := true, laidLooks := .later }
def EmbedEditsCardSaid : Prop := Claim7.holds Tryz.pinned (.plain (OpenSpec.ofChange embedEditsSpec)) embedEditsCard

/-- THE TIED CARD OF 'targumlaw17.EmbedFirst'. -/
def embedFirstCard : Claim7 := { stood := { row := embedFirstRow, standIns := [], harness := (true, "f368450c9e4511376666646a2d596c389efb2a28fde8ac71d77d268be9f6aea4"), looks := true }, kinds := [], alts := [], laidByText := true, laidKinds := [.data, .data, .data, .data, .sentinel, .sentinel, .sentinel, .sentinel, .sentinel, .sentinel, .pinned], laidTests := true, laidLooks := .later }
def EmbedFirstCardSaid : Prop := Claim7.holds Tryz.pinned (.plain (OpenSpec.ofChange embedFirstSpec)) embedFirstCard

/-- THE TIED CARD OF 'targumlaw17.EmbedShells'. -/
def embedShellsCard : Claim7 := { stood := { row := embedShellsRow, standIns := [], harness := (true, "f368450c9e4511376666646a2d596c389efb2a28fde8ac71d77d268be9f6aea4"), looks := true }, kinds := [], alts := [], laidByText := true, laidKinds := [.data, .data, .data, .data, .sentinel, .sentinel, .sentinel, .sentinel, .sentinel, .sentinel, .pinned], laidTests := true, laidLooks := .later }
def EmbedShellsCardSaid : Prop := Claim7.holds Tryz.pinned (.plain (OpenSpec.ofChange embedShellsSpec)) embedShellsCard

/-- THE TIED CARD OF 'targumlaw17.EmbedNone'. -/
def embedNoneCard : Claim7 := { stood := { row := embedNoneRow, standIns := [], harness := (true, "f368450c9e4511376666646a2d596c389efb2a28fde8ac71d77d268be9f6aea4"), looks := true }, kinds := [], alts := [], laidByText := true, laidKinds := [.data, .data, .data, .data, .sentinel, .sentinel, .sentinel, .sentinel, .sentinel, .sentinel, .pinned], laidTests := true, laidLooks := .later }
def EmbedNoneCardSaid : Prop := Claim7.holds Tryz.pinned (.plain (OpenSpec.ofChange embedNoneSpec)) embedNoneCard

/-- THE SECOND FORM's CARD OF 'targumlaw17.EmbedTakes'. -/
def embedTakesUptoCard : Claim7 := { stood := { row := embedTakesUptoRow, standIns := [], harness := (true, "f368450c9e4511376666646a2d596c389efb2a28fde8ac71d77d268be9f6aea4"), looks := true }, kinds := [], alts := [], laidByText := true, laidKinds := [.data, .data, .data, .data, .sentinel, .sentinel, .sentinel, .sentinel, .sentinel, .sentinel, .pinned], laidTests := true, laidLooks := .later }
def EmbedTakesUptoCardSaid : Prop := Claim7.holds Tryz.pinned (.plain (OpenSpec.upto embedTakesSpec)) embedTakesUptoCard

/-- THE SECOND FORM's CARD OF 'targumlaw17.EmbedBack'. -/
def embedBackUptoCard : Claim7 := { stood := { row := embedBackUptoRow, standIns := [], harness := (true, "f368450c9e4511376666646a2d596c389efb2a28fde8ac71d77d268be9f6aea4"), looks := true }, kinds := [], alts := [], laidByText := true, laidKinds := [.data, .data, .data, .data, .sentinel, .sentinel, .sentinel, .sentinel, .sentinel, .sentinel, .pinned], laidTests := true, laidLooks := .later }
def EmbedBackUptoCardSaid : Prop := Claim7.holds Tryz.pinned (.plain (OpenSpec.upto embedBackSpec)) embedBackUptoCard

/-- THE SECOND FORM's CARD OF 'targumlaw17.EmbedKeeps'. -/
def embedKeepsUptoCard : Claim7 := { stood := { row := embedKeepsUptoRow, standIns := [], harness := (true, "f368450c9e4511376666646a2d596c389efb2a28fde8ac71d77d268be9f6aea4"), looks := true }, kinds := [], alts := [], laidByText := true, laidKinds := [.data, .data, .data, .data, .sentinel, .sentinel, .sentinel, .sentinel, .sentinel, .sentinel, .pinned], laidTests := true, laidLooks := .later }
def EmbedKeepsUptoCardSaid : Prop := Claim7.holds Tryz.pinned (.plain (OpenSpec.upto embedKeepsSpec)) embedKeepsUptoCard

/-- THE SECOND FORM's CARD OF 'targumlaw17.EmbedEdits'. -/
def embedEditsUptoCard : Claim7 := { stood := { row := embedEditsUptoRow, standIns := [], harness := (true, "f368450c9e4511376666646a2d596c389efb2a28fde8ac71d77d268be9f6aea4"), looks := true }, kinds := [], alts := [], laidByText := true, laidKinds := [.data, .data, .data, .data, .sentinel, .sentinel, .sentinel, .sentinel, .sentinel, .sentinel, .pinned], laidTests := true, laidLooks := .later }
def EmbedEditsUptoCardSaid : Prop := Claim7.holds Tryz.pinned (.plain (OpenSpec.upto embedEditsSpec)) embedEditsUptoCard

/-- THE SECOND FORM's CARD OF 'targumlaw17.EmbedFirst'. -/
def embedFirstUptoCard : Claim7 := { stood := { row := embedFirstUptoRow, standIns := [], harness := (true, "f368450c9e4511376666646a2d596c389efb2a28fde8ac71d77d268be9f6aea4"), looks := true }, kinds := [], alts := [], laidByText := true, laidKinds := [.data, .data, .data, .data, .sentinel, .sentinel, .sentinel, .sentinel, .sentinel, .sentinel, .pinned], laidTests := true, laidLooks := .later }
def EmbedFirstUptoCardSaid : Prop := Claim7.holds Tryz.pinned (.plain (OpenSpec.upto embedFirstSpec)) embedFirstUptoCard

/-- THE SECOND FORM's CARD OF 'targumlaw17.EmbedShells'. -/
def embedShellsUptoCard : Claim7 := { stood := { row := embedShellsUptoRow, standIns := [], harness := (true, "f368450c9e4511376666646a2d596c389efb2a28fde8ac71d77d268be9f6aea4"), looks := true }, kinds := [], alts := [], laidByText := true, laidKinds := [.data, .data, .data, .data, .sentinel, .sentinel, .sentinel, .sentinel, .sentinel, .sentinel, .pinned], laidTests := true, laidLooks := .later }
def EmbedShellsUptoCardSaid : Prop := Claim7.holds Tryz.pinned (.plain (OpenSpec.upto embedShellsSpec)) embedShellsUptoCard

/-- THE SECOND FORM's CARD OF 'targumlaw17.EmbedNone'. -/
def embedNoneUptoCard : Claim7 := { stood := { row := embedNoneUptoRow, standIns := [], harness := (true, "f368450c9e4511376666646a2d596c389efb2a28fde8ac71d77d268be9f6aea4"), looks := true }, kinds := [], alts := [], laidByText := true, laidKinds := [.data, .data, .data, .data, .sentinel, .sentinel, .sentinel, .sentinel, .sentinel, .sentinel, .pinned], laidTests := true, laidLooks := .later }
def EmbedNoneUptoCardSaid : Prop := Claim7.holds Tryz.pinned (.plain (OpenSpec.upto embedNoneSpec)) embedNoneUptoCard
end Rows
end Go.Proofs.YtkfaoeobfigagaaGreatDoor
