/-
  DERIVED. GIVEN WITH THE SEED: THE CARDS: each row of YtfmnhifcjccjoaaGreatDoorRows.lean that lists a variable, with what it lists TIED to the program's text (the seventh form; the later family's looks); each row that meets fmt, with fmt's text TOLD by the authors' own Lean function (tested against real Go, not proved from fmt's source: count such statements apart). THE CARD IS WHAT COUNTS. Prove the row's statement (the work); the ties are given (YtfmnhifcjccjoaaGreatDoorTie.lean); close each card by the builder's one call (the guide's Derived/Test/ToyasCard.lean, 'card_holds'). Laid BY PROGRAM, IN A SANDBOX (cutbox-door.mjs). By AI agents, Wed Nov 11 2026. No macro, syntax, notation, axiom, sorry.
-/
import Derived.Test.YtfmnhifcjccjoaaGreatDoorRows
import GoSem.ClaimSeven
namespace Go.Proofs.YtfmnhifcjccjoaaGreatDoor
namespace Rows

/-- THE TIED CARD OF 'selvedgelaw18.ExpandNumbers'. -/
def expandNumbersCard : Claim7 := { stood := { row := expandNumbersRow, standIns := [], harness := (true, "dee574a5d3fad2fad6fc72ac94598171680b3875fc46bf53b37e4d13b53f6a48"), looks := false }, kinds := [], alts := [], laidByText := true, laidKinds := [.data, .data, .data, .data, .pinned], laidTests := true, laidLooks := .later }
def ExpandNumbersCardSaid : Prop := Claim7.holds Tryz.pinned (.plain (OpenSpec.ofChange expandNumbersSpec)) expandNumbersCard

/-- THE TIED CARD OF 'selvedgelaw18.ExpandTells'. -/
def expandTellsCard : Claim7 := { stood := { row := expandTellsRow, standIns := [], harness := (true, "dee574a5d3fad2fad6fc72ac94598171680b3875fc46bf53b37e4d13b53f6a48"), looks := false }, kinds := [], alts := [], laidByText := true, laidKinds := [.data, .data, .data, .data, .pinned], laidTests := true, laidLooks := .later }
def ExpandTellsCardSaid : Prop := Claim7.holds Tryz.pinned (.plain (OpenSpec.ofChange expandTellsSpec)) expandTellsCard

/-- THE TIED CARD OF 'selvedgelaw18.ExpandLimits'. -/
def expandLimitsCard : Claim7 := { stood := { row := expandLimitsRow, standIns := [], harness := (true, "dee574a5d3fad2fad6fc72ac94598171680b3875fc46bf53b37e4d13b53f6a48"), looks := false }, kinds := [], alts := [], laidByText := true, laidKinds := [.data, .data, .data, .data, .pinned], laidTests := true, laidLooks := .later }
def ExpandLimitsCardSaid : Prop := Claim7.holds Tryz.pinned (.plain (OpenSpec.ofChange expandLimitsSpec)) expandLimitsCard

/-- THE TIED CARD OF 'selvedgelaw18.ExpandBare'. -/
def expandBareCard : Claim7 := { stood := { row := expandBareRow, standIns := [], harness := (true, "dee574a5d3fad2fad6fc72ac94598171680b3875fc46bf53b37e4d13b53f6a48"), looks := false }, kinds := [], alts := [], laidByText := true, laidKinds := [.data, .data, .data, .data, .pinned], laidTests := true, laidLooks := .later }
def ExpandBareCardSaid : Prop := Claim7.holds Tryz.pinned (.plain (OpenSpec.ofChange expandBareSpec)) expandBareCard

/-- THE TIED CARD OF 'selvedgelaw18.ExpandDefs'. -/
def expandDefsCard : Claim7 := { stood := { row := expandDefsRow, standIns := [], harness := (true, "dee574a5d3fad2fad6fc72ac94598171680b3875fc46bf53b37e4d13b53f6a48"), looks := false }, kinds := [], alts := [], laidByText := true, laidKinds := [.data, .data, .data, .data, .pinned], laidTests := true, laidLooks := .later }
def ExpandDefsCardSaid : Prop := Claim7.holds Tryz.pinned (.plain (OpenSpec.ofChange expandDefsSpec)) expandDefsCard

/-- THE SECOND FORM's CARD OF 'selvedgelaw18.ExpandNumbers'. -/
def expandNumbersUptoCard : Claim7 := { stood := { row := expandNumbersUptoRow, standIns := [], harness := (true, "dee574a5d3fad2fad6fc72ac94598171680b3875fc46bf53b37e4d13b53f6a48"), looks := false }, kinds := [], alts := [], laidByText := true, laidKinds := [.data, .data, .data, .data, .pinned], laidTests := true, laidLooks := .later }
def ExpandNumbersUptoCardSaid : Prop := Claim7.holds Tryz.pinned (.plain (OpenSpec.upto expandNumbersSpec)) expandNumbersUptoCard

/-- THE SECOND FORM's CARD OF 'selvedgelaw18.ExpandTells'. -/
def expandTellsUptoCard : Claim7 := { stood := { row := expandTellsUptoRow, standIns := [], harness := (true, "dee574a5d3fad2fad6fc72ac94598171680b3875fc46bf53b37e4d13b53f6a48"), looks := false }, kinds := [], alts := [], laidByText := true, laidKinds := [.data, .data, .data, .data, .pinned], laidTests := true, laidLooks := .later }
def ExpandTellsUptoCardSaid : Prop := Claim7.holds Tryz.pinned (.plain (OpenSpec.upto expandTellsSpec)) expandTellsUptoCard

/-- THE SECOND FORM's CARD OF 'selvedgelaw18.ExpandLimits'. -/
def expandLimitsUptoCard : Claim7 := { stood := { row := expandLimitsUptoRow, standIns := [], harness := (true, "dee574a5d3fad2fad6fc72ac94598171680b3875fc46bf53b37e4d13b53f6a48"), looks := false }, kinds := [], alts := [], laidByText := true, laidKinds := [.data, .data, .data, .data, .pinned], laidTests := true, laidLooks := .later }
def ExpandLimitsUptoCardSaid : Prop := Claim7.holds Tryz.pinned (.plain (OpenSpec.upto expandLimitsSpec)) expandLimitsUptoCard

/-- THE SECOND FORM's CARD OF 'selvedgelaw18.ExpandBare'. -/
def expandBareUptoCard : Claim7 := { stood := { row := expandBareUptoRow, standIns := [], harness := (true, "dee574a5d3fad2fad6fc72ac94598171680b3875fc46bf53b37e4d13b53f6a48"), looks := false }, kinds := [], alts := [], laidByText := true, laidKinds := [.data, .data, .data, .data, .pinned], laidTests := true, laidLooks := .later }
def ExpandBareUptoCardSaid : Prop := Claim7.holds Tryz.pinned (.plain (OpenSpec.upto expandBareSpec)) expandBareUptoCard

/-- THE SECOND FORM's CARD OF 'selvedgelaw18.ExpandDefs'. -/
def expandDefsUptoCard : Claim7 := { stood := { row := expandDefsUptoRow, standIns := [], harness := (true, "dee574a5d3fad2fad6fc72ac94598171680b3875fc46bf53b37e4d13b53f6a48"), looks := false }, kinds := [], alts := [], laidByText := true, laidKinds := [.data, .data, .data, .data, .pinned], laidTests := true, laidLooks := .later }
def ExpandDefsUptoCardSaid : Prop := Claim7.holds Tryz.pinned (.plain (OpenSpec.upto expandDefsSpec)) expandDefsUptoCard
end Rows
end Go.Proofs.YtfmnhifcjccjoaaGreatDoor
