/-
  DERIVED. GIVEN WITH THE SEED: THE CARDS: each row of YtiejkijgpceohaaGreatDoorRows.lean that lists a variable, with what it lists TIED to the program's text (the seventh form; the later family's looks); each row that meets fmt, with fmt's text TOLD by the authors' own Lean function (tested against real Go, not proved from fmt's source: count such statements apart). THE CARD IS WHAT COUNTS. Prove the row's statement (the work); the ties are given (YtiejkijgpceohaaGreatDoorTie.lean); close each card by the builder's one call (the guide's Derived/Test/ToyasCard.lean, 'card_holds'). Laid BY PROGRAM, IN A SANDBOX (cutbox-door.mjs). By AI agents, Wed Nov 11 2026. No macro, syntax, notation, axiom, sorry.
-/
import Derived.Test.YtiejkijgpceohaaGreatDoorRows
import GoSem.ClaimSeven
namespace Go.Proofs.YtiejkijgpceohaaGreatDoor
namespace Rows

/-- THE TIED CARD OF 'selvedgelaw16.GraphNumbers'. -/
def graphNumbersCard : Claim7 := { stood := { row := graphNumbersRow, standIns := [], harness := (true, "873d7a95f7231c83a9b7c7b0655b687f524a3bd98a63818732135683139e27f9"), looks := false }, kinds := [], alts := [], laidByText := true, laidKinds := [.data, .pinned], laidTests := true, laidLooks := .later }
def GraphNumbersCardSaid : Prop := Claim7.holds Tryz.pinned (.plain (OpenSpec.ofChange graphNumbersSpec)) graphNumbersCard

/-- THE TIED CARD OF 'selvedgelaw16.GraphTells'. -/
def graphTellsCard : Claim7 := { stood := { row := graphTellsRow, standIns := [], harness := (true, "873d7a95f7231c83a9b7c7b0655b687f524a3bd98a63818732135683139e27f9"), looks := false }, kinds := [], alts := [], laidByText := true, laidKinds := [.data, .pinned], laidTests := true, laidLooks := .later }
def GraphTellsCardSaid : Prop := Claim7.holds Tryz.pinned (.plain (OpenSpec.ofChange graphTellsSpec)) graphTellsCard

/-- THE TIED CARD OF 'selvedgelaw16.GraphOnce'. -/
def graphOnceCard : Claim7 := { stood := { row := graphOnceRow, standIns := [], harness := (true, "873d7a95f7231c83a9b7c7b0655b687f524a3bd98a63818732135683139e27f9"), looks := false }, kinds := [], alts := [], laidByText := true, laidKinds := [.data, .pinned], laidTests := true, laidLooks := .later }
def GraphOnceCardSaid : Prop := Claim7.holds Tryz.pinned (.plain (OpenSpec.ofChange graphOnceSpec)) graphOnceCard

/-- THE SECOND FORM's CARD OF 'selvedgelaw16.GraphNumbers'. -/
def graphNumbersUptoCard : Claim7 := { stood := { row := graphNumbersUptoRow, standIns := [], harness := (true, "873d7a95f7231c83a9b7c7b0655b687f524a3bd98a63818732135683139e27f9"), looks := false }, kinds := [], alts := [], laidByText := true, laidKinds := [.data, .pinned], laidTests := true, laidLooks := .later }
def GraphNumbersUptoCardSaid : Prop := Claim7.holds Tryz.pinned (.plain (OpenSpec.upto graphNumbersSpec)) graphNumbersUptoCard

/-- THE SECOND FORM's CARD OF 'selvedgelaw16.GraphTells'. -/
def graphTellsUptoCard : Claim7 := { stood := { row := graphTellsUptoRow, standIns := [], harness := (true, "873d7a95f7231c83a9b7c7b0655b687f524a3bd98a63818732135683139e27f9"), looks := false }, kinds := [], alts := [], laidByText := true, laidKinds := [.data, .pinned], laidTests := true, laidLooks := .later }
def GraphTellsUptoCardSaid : Prop := Claim7.holds Tryz.pinned (.plain (OpenSpec.upto graphTellsSpec)) graphTellsUptoCard

/-- THE SECOND FORM's CARD OF 'selvedgelaw16.GraphOnce'. -/
def graphOnceUptoCard : Claim7 := { stood := { row := graphOnceUptoRow, standIns := [], harness := (true, "873d7a95f7231c83a9b7c7b0655b687f524a3bd98a63818732135683139e27f9"), looks := false }, kinds := [], alts := [], laidByText := true, laidKinds := [.data, .pinned], laidTests := true, laidLooks := .later }
def GraphOnceUptoCardSaid : Prop := Claim7.holds Tryz.pinned (.plain (OpenSpec.upto graphOnceSpec)) graphOnceUptoCard
end Rows
end Go.Proofs.YtiejkijgpceohaaGreatDoor
