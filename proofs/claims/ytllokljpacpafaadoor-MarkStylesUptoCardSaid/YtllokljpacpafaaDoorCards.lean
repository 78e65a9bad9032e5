/-
  DERIVED. GIVEN WITH THE SEED: THE CARDS: each row of YtllokljpacpafaaDoorRows.lean that lists a variable, with what it lists TIED to the program's text (the seventh form; the later family's looks); each row that meets fmt, with fmt's text TOLD by the authors' own Lean function (tested against real Go, not proved from fmt's source: count such statements apart). THE CARD IS WHAT COUNTS. Prove the row's statement (the work); the ties are given (YtllokljpacpafaaDoorTie.lean); close each card by the builder's one call (the guide's Derived/Test/ToyasCard.lean, 'card_holds'). Laid BY PROGRAM, IN A SANDBOX (cutbox-door.mjs). By AI agents, Wed Nov 11 2026. No macro, syntax, notation, axiom, sorry.
-/
import Derived.Test.YtllokljpacpafaaDoorRows
import GoSem.ClaimSeven
namespace Go.Proofs.YtllokljpacpafaaDoor
namespace Rows

/-- THE TIED CARD OF 'selvedgelaw17.MarkNumbers'. -/
def markNumbersCard : Claim7 := { stood := { row := markNumbersRow, standIns := [], harness := (true, "3add6272ff9f78790b78baad0dfb61692f8aa2042bf8ddbffa5987643d71b8de"), looks := true }, kinds := [], alts := [], laidByText := true, laidKinds := [.data, .data, .data, .data, .sentinel, .sentinel, .pinned], laidTests := true, laidLooks := .later }
def MarkNumbersCardSaid : Prop := Claim7.holds Tryd.pinned (.plain (OpenSpec.ofChange markNumbersSpec)) markNumbersCard

/-- THE TIED CARD OF 'selvedgelaw17.MarkTells'. -/
def markTellsCard : Claim7 := { stood := { row := markTellsRow, standIns := [], harness := (true, "3add6272ff9f78790b78baad0dfb61692f8aa2042bf8ddbffa5987643d71b8de"), looks := true }, kinds := [], alts := [], laidByText := true, laidKinds := [.data, .data, .data, .data, .sentinel, .sentinel, .pinned], laidTests := true, laidLooks := .later }
def MarkTellsCardSaid : Prop := Claim7.holds Tryd.pinned (.plain (OpenSpec.ofChange markTellsSpec)) markTellsCard

/-- THE TIED CARD OF 'selvedgelaw17.MarkBack'. -/
def markBackCard : Claim7 := { stood := { row := markBackRow, standIns := [], harness := (true, "3add6272ff9f78790b78baad0dfb61692f8aa2042bf8ddbffa5987643d71b8de"), looks := true }, kinds := [], alts := [], laidByText := true, laidKinds := [.data, .data, .data, .data, .sentinel, .sentinel, .pinned], laidTests := true, laidLooks := .later }
def MarkBackCardSaid : Prop := Claim7.holds Tryd.pinned (.plain (OpenSpec.ofChange markBackSpec)) markBackCard

/-- THE TIED CARD OF 'selvedgelaw17.MarkStyles'. -/
def markStylesCard : Claim7 := { stood := { row := markStylesRow, standIns := [], harness := (true, "3add6272ff9f78790b78baad0dfb61692f8aa2042bf8ddbffa5987643d71b8de"), looks := true }, kinds := [], alts := [], laidByText := true, laidKinds := [.data, .data, .data, .data, .sentinel, .sentinel, .pinned], laidTests := true, laidLooks := .later }
def MarkStylesCardSaid : Prop := Claim7.holds Tryd.pinned (.plain (OpenSpec.ofChange markStylesSpec)) markStylesCard

/-- THE SECOND FORM's CARD OF 'selvedgelaw17.MarkNumbers'. -/
def markNumbersUptoCard : Claim7 := { stood := { row := markNumbersUptoRow, standIns := [], harness := (true, "3add6272ff9f78790b78baad0dfb61692f8aa2042bf8ddbffa5987643d71b8de"), looks := true }, kinds := [], alts := [], laidByText := true, laidKinds := [.data, .data, .data, .data, .sentinel, .sentinel, .pinned], laidTests := true, laidLooks := .later }
def MarkNumbersUptoCardSaid : Prop := Claim7.holds Tryd.pinned (.plain (OpenSpec.upto markNumbersSpec)) markNumbersUptoCard

/-- THE SECOND FORM's CARD OF 'selvedgelaw17.MarkTells'. -/
def markTellsUptoCard : Claim7 := { stood := { row := markTellsUptoRow, standIns := [], harness := (true, "3add6272ff9f78790b78baad0dfb61692f8aa2042bf8ddbffa5987643d71b8de"), looks := true }, kinds := [], alts := [], laidByText := true, laidKinds := [.data, .data, .data, .data, .sentinel, .sentinel, .pinned], laidTests := true, laidLooks := .later }
def MarkTellsUptoCardSaid : Prop := Claim7.holds Tryd.pinned (.plain (OpenSpec.upto markTellsSpec)) markTellsUptoCard

/-- THE SECOND FORM's CARD OF 'selvedgelaw17.MarkBack'. -/
def markBackUptoCard : Claim7 := { stood := { row := markBackUptoRow, standIns := [], harness := (true, "3add6272ff9f78790b78baad0dfb61692f8aa2042bf8ddbffa5987643d71b8de"), looks := true }, kinds := [], alts := [], laidByText := true, laidKinds := [.data, .data, .data, .data, .sentinel, .sentinel, .pinned], laidTests := true, laidLooks := .later }
def MarkBackUptoCardSaid : Prop := Claim7.holds Tryd.pinned (.plain (OpenSpec.upto markBackSpec)) markBackUptoCard

/-- THE SECOND FORM's CARD OF 'selvedgelaw17.MarkStyles'. -/
def markStylesUptoCard : Claim7 := { stood := { row := markStylesUptoRow, standIns := [], harness := (true, "3add6272ff9f78790b78baad0dfb61692f8aa2042bf8ddbffa5987643d71b8de"), looks := true }, kinds := [], alts := [], laidByText := true, laidKinds := [.data, .data, .data, .data, .sentinel, .sentinel, .pinned], laidTests := true, laidLooks := .later }
def MarkStylesUptoCardSaid : Prop := Claim7.holds Tryd.pinned (.plain (OpenSpec.upto markStylesSpec)) markStylesUptoCard
end Rows
end Go.Proofs.YtllokljpacpafaaDoor
