/-
  DERIVED. GIVEN WITH THE SEED: THE CARDS: each row of YtofigleaealbjaaGreatDoorRows.lean that lists a variable, with what it lists TIED to the program's text (the seventh form; the later family's looks); each row that meets fmt, with fmt's text TOLD by the authors' own Lean function (tested against real Go, not proved from fmt's source: count such statements apart). THE CARD IS WHAT COUNTS. Prove the row's statement (the work); the ties are given (YtofigleaealbjaaGreatDoorTie.lean); close each card by the builder's one call (the guide's Derived/Test/ToyasCard.lean, 'card_holds'). Laid BY PROGRAM, IN A SANDBOX (cutbox-door.mjs). By AI agents, Wed Nov 11 2026. No macro, syntax, notation, axiom, sorry.
-/
import Derived.Test.YtofigleaealbjaaGreatDoorRows
import GoSem.ClaimSeven
namespace Go.Proofs.YtofigleaealbjaaGreatDoor
namespace Rows

/-- THE TIED CARD OF 'selvedgelaw21.GatherStrips'. -/
def gatherStripsCard : Claim7 := { stood := { row := gatherStripsRow, standIns := [], harness := (true, "5ba5c070d091d885f3ef67bc54f9c87fc5028001ebe63e47d5d7e9bce1d1d405"), looks := true }, kinds := [], alts := [], laidByText := true, laidKinds := [.data, .data, .data, .data, .sentinel, .sentinel, .pinned], laidTests := true, laidLooks := .later }
def GatherStripsCardSaid : Prop := Claim7.holds Tryz.pinned (.plain (OpenSpec.ofChange gatherStripsSpec)) gatherStripsCard

/-- THE SECOND FORM's CARD OF 'selvedgelaw21.GatherStrips'. -/
def gatherStripsUptoCard : Claim7 := { stood := { row := gatherStripsUptoRow, standIns := [], harness := (true, "5ba5c070d091d885f3ef67bc54f9c87fc5028001ebe63e47d5d7e9bce1d1d405"), looks := true }, kinds := [], alts := [], laidByText := true, laidKinds := [.data, .data, .data, .data, .sentinel, .sentinel, .pinned], laidTests := true, laidLooks := .later }
def GatherStripsUptoCardSaid : Prop := Claim7.holds Tryz.pinned (.plain (OpenSpec.upto gatherStripsSpec)) gatherStripsUptoCard
end Rows
end Go.Proofs.YtofigleaealbjaaGreatDoor
