/-
  DERIVED. GIVEN WITH THE SEED: THE CARDS: each row of YtnlkgnoogcakjaaGreatDoorRows.lean that lists a variable, with what it lists TIED to the program's text (the seventh form; the later family's looks); each row that meets fmt, with fmt's text TOLD by the authors' own Lean function (tested against real Go, not proved from fmt's source: count such statements apart). THE CARD IS WHAT COUNTS. Prove the row's statement (the work); the ties are given (YtnlkgnoogcakjaaGreatDoorTie.lean); close each card by the builder's one call (the guide's Derived/Test/ToyasCard.lean, 'card_holds'). Laid BY PROGRAM, IN A SANDBOX (cutbox-door.mjs). By AI agents, Wed Nov 11 2026. No macro, syntax, notation, axiom, sorry.
-/
import Derived.Test.YtnlkgnoogcakjaaGreatDoorRows
import GoSem.ClaimSeven
namespace Go.Proofs.YtnlkgnoogcakjaaGreatDoor
namespace Rows

/-- THE TIED CARD OF 'selvedgelaw5.AttrNumbers'. -/
def attrNumbersCard : Claim7 := { stood := { row := attrNumbersRow, standIns := [], harness := (true, "57c4a8a946702e3f034217fa43ba26f961f690f0f5330de4251212e85fd99925"), looks := true }, kinds := [], alts := [], laidByText := true, laidKinds := [.data, .pinned], laidTests := true, laidLooks := .later }
def AttrNumbersCardSaid : Prop := Claim7.holds Tryz.pinned (.plain (OpenSpec.ofChange attrNumbersSpec)) attrNumbersCard

/-- THE TIED CARD OF 'selvedgelaw5.AttrTells'. -/
def attrTellsCard : Claim7 := { stood := { row := attrTellsRow, standIns := [], harness := (true, "57c4a8a946702e3f034217fa43ba26f961f690f0f5330de4251212e85fd99925"), looks := true }, kinds := [], alts := [], laidByText := true, laidKinds := [.data, .pinned], laidTests := true, laidLooks := .later }
def AttrTellsCardSaid : Prop := Claim7.holds Tryz.pinned (.plain (OpenSpec.ofChange attrTellsSpec)) attrTellsCard

/-- THE TIED CARD OF 'selvedgelaw5.AttrBack'. -/
def attrBackCard : Claim7 := { stood := { row := attrBackRow, standIns := [], harness := (true, "57c4a8a946702e3f034217fa43ba26f961f690f0f5330de4251212e85fd99925"), looks := true }, kinds := [], alts := [], laidByText := true, laidKinds := [.data, .pinned], laidTests := true, laidLooks := .later }
def AttrBackCardSaid : Prop := Claim7.holds Tryz.pinned (.plain (OpenSpec.ofChange attrBackSpec)) attrBackCard

/-- THE TIED CARD OF 'selvedgelaw5.AttrOrder'. -/
def attrOrderCard : Claim7 := { stood := { row := attrOrderRow, standIns := [], harness := (true, "57c4a8a946702e3f034217fa43ba26f961f690f0f5330de4251212e85fd99925"), looks := true }, kinds := [], alts := [], laidByText := true, laidKinds := [.data, .pinned], laidTests := true, laidLooks := .later }
def AttrOrderCardSaid : Prop := Claim7.holds Tryz.pinned (.plain (OpenSpec.ofChange attrOrderSpec)) attrOrderCard

/-- THE SECOND FORM's CARD OF 'selvedgelaw5.AttrNumbers'. -/
def attrNumbersUptoCard : Claim7 := { stood := { row := attrNumbersUptoRow, standIns := [], harness := (true, "57c4a8a946702e3f034217fa43ba26f961f690f0f5330de4251212e85fd99925"), looks := true }, kinds := [], alts := [], laidByText := true, laidKinds := [.data, .pinned], laidTests := true, laidLooks := .later }
def AttrNumbersUptoCardSaid : Prop := Claim7.holds Tryz.pinned (.plain (OpenSpec.upto attrNumbersSpec)) attrNumbersUptoCard

/-- THE SECOND FORM's CARD OF 'selvedgelaw5.AttrTells'. -/
def attrTellsUptoCard : Claim7 := { stood := { row := attrTellsUptoRow, standIns := [], harness := (true, "57c4a8a946702e3f034217fa43ba26f961f690f0f5330de4251212e85fd99925"), looks := true }, kinds := [], alts := [], laidByText := true, laidKinds := [.data, .pinned], laidTests := true, laidLooks := .later }
def AttrTellsUptoCardSaid : Prop := Claim7.holds Tryz.pinned (.plain (OpenSpec.upto attrTellsSpec)) attrTellsUptoCard

/-- THE SECOND FORM's CARD OF 'selvedgelaw5.AttrBack'. -/
def attrBackUptoCard : Claim7 := { stood := { row := attrBackUptoRow, standIns := [], harness := (true, "57c4a8a946702e3f034217fa43ba26f961f690f0f5330de4251212e85fd99925"), looks := true }, kinds := [], alts := [], laidByText := true, laidKinds := [.data, .pinned], laidTests := true, laidLooks := .later }
def AttrBackUptoCardSaid : Prop := Claim7.holds Tryz.pinned (.plain (OpenSpec.upto attrBackSpec)) attrBackUptoCard

/-- THE SECOND FORM's CARD OF 'selvedgelaw5.AttrOrder'. -/
def attrOrderUptoCard : Claim7 := { stood := { row := attrOrderUptoRow, standIns := [], harness := (true, "57c4a8a946702e3f034217fa43ba26f961f690f0f5330de4251212e85fd99925"), looks := true }, kinds := [], alts := [], laidByText := true, laidKinds := [.data, .pinned], laidTests := true, laidLooks := .later }
def AttrOrderUptoCardSaid : Prop := Claim7.holds Tryz.pinned (.plain (OpenSpec.upto attrOrderSpec)) attrOrderUptoCard
end Rows
end Go.Proofs.YtnlkgnoogcakjaaGreatDoor
