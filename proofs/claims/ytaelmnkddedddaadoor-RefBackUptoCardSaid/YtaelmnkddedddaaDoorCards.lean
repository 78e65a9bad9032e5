/-
  DERIVED. GIVEN WITH THE SEED: THE CARDS: each row of YtaelmnkddedddaaDoorRows.lean that lists a variable, with what it lists TIED to the program's text (the seventh form; the later family's looks); each row that meets fmt, with fmt's text TOLD by the authors' own Lean function (tested against real Go, not proved from fmt's source: count such statements apart). THE CARD IS WHAT COUNTS. Prove the row's statement (the work); the ties are given (YtaelmnkddedddaaDoorTie.lean); close each card by the builder's one call (the guide's Derived/Test/ToyasCard.lean, 'card_holds'). Laid BY PROGRAM, IN A SANDBOX (cutbox-door.mjs). By AI agents, Wed Nov 11 2026. No macro, syntax, notation, axiom, sorry.
-/
import Derived.Test.YtaelmnkddedddaaDoorRows
import GoSem.ClaimSeven
namespace Go.Proofs.YtaelmnkddedddaaDoor
namespace Rows

/-- THE TIED CARD OF 'selvedgelaw15.RefNumbers'. -/
def refNumbersCard : Claim7 := { stood := { row := refNumbersRow, standIns := [], harness := (true, "ffeebab43c7034ab346fafe37db193d66791f1713e98c7532def3fa7085698a2"), looks := false }, kinds := [], alts := [], laidByText := true, laidKinds := [.data, .pinned], laidTests := true, laidLooks := .later }
def RefNumbersCardSaid : Prop := Claim7.holds Tryd.pinned (.plain (OpenSpec.ofChange refNumbersSpec)) refNumbersCard

/-- THE TIED CARD OF 'selvedgelaw15.RefTells'. -/
def refTellsCard : Claim7 := { stood := { row := refTellsRow, standIns := [], harness := (true, "ffeebab43c7034ab346fafe37db193d66791f1713e98c7532def3fa7085698a2"), looks := false }, kinds := [], alts := [], laidByText := true, laidKinds := [.data, .pinned], laidTests := true, laidLooks := .later }
def RefTellsCardSaid : Prop := Claim7.holds Tryd.pinned (.plain (OpenSpec.ofChange refTellsSpec)) refTellsCard

/-- THE TIED CARD OF 'selvedgelaw15.RefBack'. -/
def refBackCard : Claim7 := { stood := { row := refBackRow, standIns := [], harness := (true, "ffeebab43c7034ab346fafe37db193d66791f1713e98c7532def3fa7085698a2"), looks := false }, kinds := [], alts := [], laidByText := true, laidKinds := [.data, .pinned], laidTests := true, laidLooks := .later }
def RefBackCardSaid : Prop := Claim7.holds Tryd.pinned (.plain (OpenSpec.ofChange refBackSpec)) refBackCard

/-- THE TIED CARD OF 'selvedgelaw15.RefNames'. -/
def refNamesCard : Claim7 := { stood := { row := refNamesRow, standIns := [], harness := (true, "ffeebab43c7034ab346fafe37db193d66791f1713e98c7532def3fa7085698a2"), looks := false }, kinds := [], alts := [], laidByText := true, laidKinds := [.data, .pinned], laidTests := true, laidLooks := .later }
def RefNamesCardSaid : Prop := Claim7.holds Tryd.pinned (.plain (OpenSpec.ofChange refNamesSpec)) refNamesCard

/-- THE SECOND FORM's CARD OF 'selvedgelaw15.RefNumbers'. -/
def refNumbersUptoCard : Claim7 := { stood := { row := refNumbersUptoRow, standIns := [], harness := (true, "ffeebab43c7034ab346fafe37db193d66791f1713e98c7532def3fa7085698a2"), looks := false }, kinds := [], alts := [], laidByText := true, laidKinds := [.data, .pinned], laidTests := true, laidLooks := .later }
def RefNumbersUptoCardSaid : Prop := Claim7.holds Tryd.pinned (.plain (OpenSpec.upto refNumbersSpec)) refNumbersUptoCard

/-- THE SECOND FORM's CARD OF 'selvedgelaw15.RefTells'. -/
def refTellsUptoCard : Claim7 := { stood := { row := refTellsUptoRow, standIns := [], harness := (true, "ffeebab43c7034ab346fafe37db193d66791f1713e98c7532def3fa7085698a2"), looks := false }, kinds := [], alts := [], laidByText := true, laidKinds := [.data, .pinned], laidTests := true, laidLooks := .later }
def RefTellsUptoCardSaid : Prop := Claim7.holds Tryd.pinned (.plain (OpenSpec.upto refTellsSpec)) refTellsUptoCard

/-- THE SECOND FORM's CARD OF 'selvedgelaw15.RefBack'. -/
def refBackUptoCard : Claim7 := { stood := { row := refBackUptoRow, standIns := [], harness := (true, "ffeebab43c7034ab346fafe37db193d66791f1713e98c7532def3fa7085698a2"), looks := false }, kinds := [], alts := [], laidByText := true, laidKinds := [.data, .pinned], laidTests := true, laidLooks := .later }
def RefBackUptoCardSaid : Prop := Claim7.holds Tryd.pinned (.plain (OpenSpec.upto refBackSpec)) refBackUptoCard

/-- THE SECOND FORM's CARD OF 'selvedgelaw15.RefNames'. -/
def refNamesUptoCard : Claim7 := { stood := { row := refNamesUptoRow, standIns := [], harness := (true, "ffeebab43c7034ab346fafe37db193d66791f1713e98c7532def3fa7085698a2"), looks := false }, kinds := [], alts := [], laidByText := true, laidKinds := [.data, .pinned], laidTests := true, laidLooks := .later }
def RefNamesUptoCardSaid : Prop := Claim7.holds Tryd.pinned (.plain (OpenSpec.upto refNamesSpec)) refNamesUptoCard
end Rows
end Go.Proofs.YtaelmnkddedddaaDoor
