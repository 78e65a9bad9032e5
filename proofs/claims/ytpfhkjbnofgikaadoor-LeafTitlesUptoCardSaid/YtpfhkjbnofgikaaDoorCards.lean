/-
  DERIVED. GIVEN WITH THE SEED: THE CARDS: each row of YtpfhkjbnofgikaaDoorRows.lean that lists a variable, with what it lists TIED to the program's text (the seventh form; the later family's looks); each row that meets fmt, with fmt's text TOLD by the authors' own Lean function (tested against real Go, not proved from fmt's source: count such statements apart). THE CARD IS WHAT COUNTS. Prove the row's statement (the work); the ties are given (YtpfhkjbnofgikaaDoorTie.lean); close each card by the builder's one call (the guide's Derived/Test/ToyasCard.lean, 'card_holds'). Laid BY PROGRAM, IN A SANDBOX (cutbox-door.mjs). By AI agents, Wed Nov 11 2026. No macro, syntax, notation, axiom, sorry.
-/
import Derived.Test.YtpfhkjbnofgikaaDoorRows
import GoSem.ClaimSeven
namespace Go.Proofs.YtpfhkjbnofgikaaDoor
namespace Rows

/-- THE TIED CARD OF 'selvedgelaw6.LeafNumbers'. -/
def leafNumbersCard : Claim7 := { stood := { row := leafNumbersRow, standIns := [], harness := (true, "69185745368d11dd0fd10ab685187d822b1fbf7c2d56802554a0ee9fe7657217"), looks := false }, kinds := [], alts := [], laidByText := true, laidKinds := [.data, .pinned], laidTests := true, laidLooks := .later }
def LeafNumbersCardSaid : Prop := Claim7.holds Tryd.pinned (.plain (OpenSpec.ofChange leafNumbersSpec)) leafNumbersCard

/-- THE TIED CARD OF 'selvedgelaw6.LeafTells'. -/
def leafTellsCard : Claim7 := { stood := { row := leafTellsRow, standIns := [], harness := (true, "69185745368d11dd0fd10ab685187d822b1fbf7c2d56802554a0ee9fe7657217"), looks := false }, kinds := [], alts := [], laidByText := true, laidKinds := [.data, .pinned], laidTests := true, laidLooks := .later }
def LeafTellsCardSaid : Prop := Claim7.holds Tryd.pinned (.plain (OpenSpec.ofChange leafTellsSpec)) leafTellsCard

/-- THE TIED CARD OF 'selvedgelaw6.LeafOne'. -/
def leafOneCard : Claim7 := { stood := { row := leafOneRow, standIns := [], harness := (true, "69185745368d11dd0fd10ab685187d822b1fbf7c2d56802554a0ee9fe7657217"), looks := false }, kinds := [], alts := [], laidByText := true, laidKinds := [.data, .pinned], laidTests := true, laidLooks := .later }
def LeafOneCardSaid : Prop := Claim7.holds Tryd.pinned (.plain (OpenSpec.ofChange leafOneSpec)) leafOneCard

/-- THE TIED CARD OF 'selvedgelaw6.LeafDeep'. -/
def leafDeepCard : Claim7 := { stood := { row := leafDeepRow, standIns := [], harness := (true, "69185745368d11dd0fd10ab685187d822b1fbf7c2d56802554a0ee9fe7657217"), looks := false }, kinds := [], alts := [], laidByText := true, laidKinds := [.data, .pinned], laidTests := true, laidLooks := .later }
def LeafDeepCardSaid : Prop := Claim7.holds Tryd.pinned (.plain (OpenSpec.ofChange leafDeepSpec)) leafDeepCard

/-- THE TIED CARD OF 'selvedgelaw6.LeafTitles'. -/
def leafTitlesCard : Claim7 := { stood := { row := leafTitlesRow, standIns := [], harness := (true, "69185745368d11dd0fd10ab685187d822b1fbf7c2d56802554a0ee9fe7657217"), looks := false }, kinds := [], alts := [], laidByText := true, laidKinds := [.data, .pinned], laidTests := true, laidLooks := .later }
def LeafTitlesCardSaid : Prop := Claim7.holds Tryd.pinned (.plain (OpenSpec.ofChange leafTitlesSpec)) leafTitlesCard

/-- THE SECOND FORM's CARD OF 'selvedgelaw6.LeafNumbers'. -/
def leafNumbersUptoCard : Claim7 := { stood := { row := leafNumbersUptoRow, standIns := [], harness := (true, "69185745368d11dd0fd10ab685187d822b1fbf7c2d56802554a0ee9fe7657217"), looks := false }, kinds := [], alts := [], laidByText := true, laidKinds := [.data, .pinned], laidTests := true, laidLooks := .later }
def LeafNumbersUptoCardSaid : Prop := Claim7.holds Tryd.pinned (.plain (OpenSpec.upto leafNumbersSpec)) leafNumbersUptoCard

/-- THE SECOND FORM's CARD OF 'selvedgelaw6.LeafTells'. -/
def leafTellsUptoCard : Claim7 := { stood := { row := leafTellsUptoRow, standIns := [], harness := (true, "69185745368d11dd0fd10ab685187d822b1fbf7c2d56802554a0ee9fe7657217"), looks := false }, kinds := [], alts := [], laidByText := true, laidKinds := [.data, .pinned], laidTests := true, laidLooks := .later }
def LeafTellsUptoCardSaid : Prop := Claim7.holds Tryd.pinned (.plain (OpenSpec.upto leafTellsSpec)) leafTellsUptoCard

/-- THE SECOND FORM's CARD OF 'selvedgelaw6.LeafOne'. -/
def leafOneUptoCard : Claim7 := { stood := { row := leafOneUptoRow, standIns := [], harness := (true, "69185745368d11dd0fd10ab685187d822b1fbf7c2d56802554a0ee9fe7657217"), looks := false }, kinds := [], alts := [], laidByText := true, laidKinds := [.data, .pinned], laidTests := true, laidLooks := .later }
def LeafOneUptoCardSaid : Prop := Claim7.holds Tryd.pinned (.plain (OpenSpec.upto leafOneSpec)) leafOneUptoCard

/-- THE SECOND FORM's CARD OF 'selvedgelaw6.LeafDeep'. -/
def leafDeepUptoCard : Claim7 := { stood := { row := leafDeepUptoRow, standIns := [], harness := (true, "69185745368d11dd0fd10ab685187d822b1fbf7c2d56802554a0ee9fe7657217"), looks := false }, kinds := [], alts := [], laidByText := true, laidKinds := [.data, .pinned], laidTests := true, laidLooks := .later }
def LeafDeepUptoCardSaid : Prop := Claim7.holds Tryd.pinned (.plain (OpenSpec.upto leafDeepSpec)) leafDeepUptoCard

/-- THE SECOND FORM's CARD OF 'selvedgelaw6.LeafTitles'. -/
def leafTitlesUptoCard : Claim7 := { stood := { row := leafTitlesUptoRow, standIns := [], harness := (true, "69185745368d11dd0fd10ab685187d822b1fbf7c2d56802554a0ee9fe7657217"), looks := false }, kinds := [], alts := [], laidByText := true, laidKinds := [.data, .pinned], laidTests := true, laidLooks := .later }
def LeafTitlesUptoCardSaid : Prop := Claim7.holds Tryd.pinned (.plain (OpenSpec.upto leafTitlesSpec)) leafTitlesUptoCard
end Rows
end Go.Proofs.YtpfhkjbnofgikaaDoor
