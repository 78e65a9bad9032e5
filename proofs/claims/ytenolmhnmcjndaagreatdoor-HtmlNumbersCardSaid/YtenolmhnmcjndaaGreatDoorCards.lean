/-
  DERIVED. GIVEN WITH THE SEED: THE CARDS: each row of YtenolmhnmcjndaaGreatDoorRows.lean that lists a variable, with what it lists TIED to the program's text (the seventh form; the later family's looks); each row that meets fmt, with fmt's text TOLD by the authors' own Lean function (tested against real Go, not proved from fmt's source: count such statements apart). THE CARD IS WHAT COUNTS. Prove the row's statement (the work); the ties are given (YtenolmhnmcjndaaGreatDoorTie.lean); close each card by the builder's one call (the guide's Derived/Test/ToyasCard.lean, 'card_holds'). Laid BY PROGRAM, IN A SANDBOX (cutbox-door.mjs). By AI agents, Wed Nov 11 2026. No macro, syntax, notation, axiom, sorry.
-/
import Derived.Test.YtenolmhnmcjndaaGreatDoorRows
import GoSem.ClaimSeven
namespace Go.Proofs.YtenolmhnmcjndaaGreatDoor
namespace Rows

/-- THE TIED CARD OF 'selvedgelaw14.ChunkNumbers'. -/
def chunkNumbersCard : Claim7 := { stood := { row := chunkNumbersRow, standIns := [], harness := (true, "37943b71c9724d60d0f940e565349c6c7fc5de9667843dbfab2a21ee9f09538d"), looks := true }, kinds := [], alts := [], laidByText := true, laidKinds := [.data, .pinned], laidTests := true, laidLooks := .later }
def ChunkNumbersCardSaid : Prop := Claim7.holds Tryz.pinned (.plain (OpenSpec.ofChange chunkNumbersSpec)) chunkNumbersCard

/-- THE TIED CARD OF 'selvedgelaw13.HtmlNumbers'. -/
def htmlNumbersCard : Claim7 := { stood := { row := htmlNumbersRow, standIns := [], harness := (true, "37943b71c9724d60d0f940e565349c6c7fc5de9667843dbfab2a21ee9f09538d"), looks := true }, kinds := [], alts := [], laidByText := true, laidKinds := [.data, .data, .data, .data, .pinned], laidTests := true, laidLooks := .later }
def HtmlNumbersCardSaid : Prop := Claim7.holds Tryz.pinned (.plain (OpenSpec.ofChange htmlNumbersSpec)) htmlNumbersCard

/-- THE TIED CARD OF 'selvedgelaw24.WeaveNumbers'. -/
def weaveNumbersCard : Claim7 := { stood := { row := weaveNumbersRow, standIns := [], harness := (true, "37943b71c9724d60d0f940e565349c6c7fc5de9667843dbfab2a21ee9f09538d"), looks := true }, kinds := [], alts := [], laidByText := true, laidKinds := [.data, .data, .data, .data, .pinned], laidTests := true, laidLooks := .later }
def WeaveNumbersCardSaid : Prop := Claim7.holds Tryz.pinned (.plain (OpenSpec.ofChange weaveNumbersSpec)) weaveNumbersCard

/-- THE SECOND FORM's CARD OF 'selvedgelaw14.ChunkNumbers'. -/
def chunkNumbersUptoCard : Claim7 := { stood := { row := chunkNumbersUptoRow, standIns := [], harness := (true, "37943b71c9724d60d0f940e565349c6c7fc5de9667843dbfab2a21ee9f09538d"), looks := true }, kinds := [], alts := [], laidByText := true, laidKinds := [.data, .pinned], laidTests := true, laidLooks := .later }
def ChunkNumbersUptoCardSaid : Prop := Claim7.holds Tryz.pinned (.plain (OpenSpec.upto chunkNumbersSpec)) chunkNumbersUptoCard

/-- THE SECOND FORM's CARD OF 'selvedgelaw13.HtmlNumbers'. -/
def htmlNumbersUptoCard : Claim7 := { stood := { row := htmlNumbersUptoRow, standIns := [], harness := (true, "37943b71c9724d60d0f940e565349c6c7fc5de9667843dbfab2a21ee9f09538d"), looks := true }, kinds := [], alts := [], laidByText := true, laidKinds := [.data, .data, .data, .data, .pinned], laidTests := true, laidLooks := .later }
def HtmlNumbersUptoCardSaid : Prop := Claim7.holds Tryz.pinned (.plain (OpenSpec.upto htmlNumbersSpec)) htmlNumbersUptoCard

/-- THE SECOND FORM's CARD OF 'selvedgelaw24.WeaveNumbers'. -/
def weaveNumbersUptoCard : Claim7 := { stood := { row := weaveNumbersUptoRow, standIns := [], harness := (true, "37943b71c9724d60d0f940e565349c6c7fc5de9667843dbfab2a21ee9f09538d"), looks := true }, kinds := [], alts := [], laidByText := true, laidKinds := [.data, .data, .data, .data, .pinned], laidTests := true, laidLooks := .later }
def WeaveNumbersUptoCardSaid : Prop := Claim7.holds Tryz.pinned (.plain (OpenSpec.upto weaveNumbersSpec)) weaveNumbersUptoCard
end Rows
end Go.Proofs.YtenolmhnmcjndaaGreatDoor
