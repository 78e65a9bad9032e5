/-
  DERIVED. GIVEN WITH THE SEED: THE CARDS: each row of YtbcenbhdmpljhaaGreatDoorRows.lean that lists a variable, with what it lists TIED to the program's text (the seventh form; the later family's looks); each row that meets fmt, with fmt's text TOLD by the authors' own Lean function (tested against real Go, not proved from fmt's source: count such statements apart). THE CARD IS WHAT COUNTS. Prove the row's statement (the work); the ties are given (YtbcenbhdmpljhaaGreatDoorTie.lean); close each card by the builder's one call (the guide's Derived/Test/ToyasCard.lean, 'card_holds'). Laid BY PROGRAM, IN A SANDBOX (cutbox-door.mjs). By AI agents, Wed Nov 11 2026. No macro, syntax, notation, axiom, sorry.
-/
import Derived.Test.YtbcenbhdmpljhaaGreatDoorRows
import GoSem.ClaimSeven
namespace Go.Proofs.YtbcenbhdmpljhaaGreatDoor
namespace Rows

/-- THE TIED CARD OF 'selvedgelaw7.BlockNumbers'. -/
def blockNumbersCard : Claim7 := { stood := { row := blockNumbersRow, standIns := [], harness := (true, "5e6e2baa8fd51c99ce8ed89dc83364d2c81b7ed4209747c9390fb4b6d40c3360"), looks := false }, kinds := [], alts := [], laidByText := true, laidKinds := [.data, .pinned], laidTests := true, laidLooks := .later }
def BlockNumbersCardSaid : Prop := Claim7.holds Tryz.pinned (.plain (OpenSpec.ofChange blockNumbersSpec)) blockNumbersCard

/-- THE SECOND FORM's CARD OF 'selvedgelaw7.BlockNumbers'. -/
def blockNumbersUptoCard : Claim7 := { stood := { row := blockNumbersUptoRow, standIns := [], harness := (true, "5e6e2baa8fd51c99ce8ed89dc83364d2c81b7ed4209747c9390fb4b6d40c3360"), looks := false }, kinds := [], alts := [], laidByText := true, laidKinds := [.data, .pinned], laidTests := true, laidLooks := .later }
def BlockNumbersUptoCardSaid : Prop := Claim7.holds Tryz.pinned (.plain (OpenSpec.upto blockNumbersSpec)) blockNumbersUptoCard
end Rows
end Go.Proofs.YtbcenbhdmpljhaaGreatDoor
