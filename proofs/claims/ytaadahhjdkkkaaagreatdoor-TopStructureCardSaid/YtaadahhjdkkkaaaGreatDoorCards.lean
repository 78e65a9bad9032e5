/-
  DERIVED. GIVEN WITH THE SEED: THE CARDS: each row of YtaadahhjdkkkaaaGreatDoorRows.lean that lists a variable, with what it lists TIED to the program's text (the seventh form; the later family's looks); each row that meets fmt, with fmt's text TOLD by the authors' own Lean function (tested against real Go, not proved from fmt's source: count such statements apart). THE CARD IS WHAT COUNTS. Prove the row's statement (the work); the ties are given (YtaadahhjdkkkaaaGreatDoorTie.lean); close each card by the builder's one call (the guide's Derived/Test/ToyasCard.lean, 'card_holds'). Laid BY PROGRAM, IN A SANDBOX (cutbox-door.mjs). By AI agents, Wed Nov 11 2026. No macro, syntax, notation, axiom, sorry.
-/
import Derived.Test.YtaadahhjdkkkaaaGreatDoorRows
import GoSem.ClaimSeven
namespace Go.Proofs.YtaadahhjdkkkaaaGreatDoor
namespace Rows

/-- THE TIED CARD OF 'selvedgetop.TopStructure'. -/
def topStructureCard : Claim7 := { stood := { row := topStructureRow, standIns := [], harness := (true, "b3cfa2b483c125ff0440738af6387064dfe917abdd04d154ac1c3a94f2d90539"), looks := true }, kinds := [], alts := [], laidByText := true, laidKinds := [.data, .data, .data, .data, .sentinel, .sentinel, .pinned], laidTests := true, laidLooks := .later }
def TopStructureCardSaid : Prop := Claim7.holds Tryz.pinned (.plain (OpenSpec.ofChange topStructureSpec)) topStructureCard

/-- THE SECOND FORM's CARD OF 'selvedgetop.TopStructure'. -/
def topStructureUptoCard : Claim7 := { stood := { row := topStructureUptoRow, standIns := [], harness := (true, "b3cfa2b483c125ff0440738af6387064dfe917abdd04d154ac1c3a94f2d90539"), looks := true }, kinds := [], alts := [], laidByText := true, laidKinds := [.data, .data, .data, .data, .sentinel, .sentinel, .pinned], laidTests := true, laidLooks := .later }
def TopStructureUptoCardSaid : Prop := Claim7.holds Tryz.pinned (.plain (OpenSpec.upto topStructureSpec)) topStructureUptoCard
end Rows
end Go.Proofs.YtaadahhjdkkkaaaGreatDoor
