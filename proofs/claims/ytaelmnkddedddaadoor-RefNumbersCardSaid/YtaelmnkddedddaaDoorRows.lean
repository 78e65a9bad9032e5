/-
  NARROWER THAN 'FOR EVERY INPUT', by the rows' own cells (each row's printed sentence says how): RefNumbers: laid · RefTells: laid · RefBack: laid · RefNames: laid.
  DERIVED. THE GIVEN ROWS OF THIS SEAT. 4 by the template 'for every input the law returns true; each argument reads behind the call as it read before'; 0 by the template 'total and deterministic' (their statements: YtaelmnkddedddaaDoorTotals.lean).
  GIVEN WITH THE SEED: the statements are not yours to turn. If you find one false, say at which input.
  Laid BY PROGRAM, IN A SANDBOX (cutbox-rows.mjs): the forced cells as the released guide's own fill.sh prints them over the translation 65cd7d1c639557e4… (all of the seat's roots in one cut). By AI agents, Wed Nov 11 2026. No macro, syntax, notation, axiom, sorry.
-/
import Derived.Test.YtaelmnkddedddaaDoorChecked
import GoSem.PinnedTables
import GoSem.Claim
import GoSem.ClaimJoined
import GoSem.ClaimMapViews
import Derived.JoinedTies
import Derived.KernelRfl
namespace Go.Proofs.YtaelmnkddedddaaDoor
/- THE CELL 'sum', in the pinned program and in every row, IS THE sha256 OF THE DUMP (.gsa) THAT YtaelmnkddedddaaDoorProg.lean LOADS. Nothing in Lean hashes anything: it is a label: what it is worth is what the hold of that sum in a sandbox is worth. -/
noncomputable def Tryd.pinned : Pinned := { name := "ytaelmnkddedddaadoor", sum := "65cd7d1c639557e47fbe75f4c5dcb62cafa785c45f0f065bb8e701d9cb8008be", checked := Tryd.checked }
namespace Rows
def none {H : Type} : Left H := { results := [], args := [] }

/- WHAT THE LISTED PACKAGE-LEVEL VARIABLES READ AS WHEN THE CALL BEGINS. Each datum BY PROGRAM (the guide's laid-datum.mjs) off the statement by which the dump's own 'gosem.cut.vars' lays the variable. In a bare row this is a premise. The card (YtaelmnkddedddaaDoorCards.lean) ties it to the program's text. -/
def laid_unicode_utf8_acceptRanges {H : Type} : DataW H := .agg [.agg [.lit (.int .u8 128), .lit (.int .u8 191)], .agg [.lit (.int .u8 160), .lit (.int .u8 191)], .agg [.lit (.int .u8 128), .lit (.int .u8 159)], .agg [.lit (.int .u8 144), .lit (.int .u8 191)], .agg [.lit (.int .u8 128), .lit (.int .u8 143)], .agg [.lit (.int .u8 0), .lit (.int .u8 0)], .agg [.lit (.int .u8 0), .lit (.int .u8 0)], .agg [.lit (.int .u8 0), .lit (.int .u8 0)], .agg [.lit (.int .u8 0), .lit (.int .u8 0)], .agg [.lit (.int .u8 0), .lit (.int .u8 0)], .agg [.lit (.int .u8 0), .lit (.int .u8 0)], .agg [.lit (.int .u8 0), .lit (.int .u8 0)], .agg [.lit (.int .u8 0), .lit (.int .u8 0)], .agg [.lit (.int .u8 0), .lit (.int .u8 0)], .agg [.lit (.int .u8 0), .lit (.int .u8 0)], .agg [.lit (.int .u8 0), .lit (.int .u8 0)]]
/-- One of Go's own tables, pinned by name: the form's constant. -/
def laid_unicode_utf8_first : DataW Unit := Go.Pinned.utf8First

/-- 'selvedgelaw15.RefNumbers': WHATEVER THE INPUT: true; the input reads as it did. -/
def refNumbersSpec : ChangeSpec := { name := "refNumbers", fn := fun _ => fun
  | [] => { results := [.lit (.bool true)], args := [] }
  | _ => none }
def refNumbersRow : OpenClaim := { program := "ytaelmnkddedddaadoor", sum := "65cd7d1c639557e47fbe75f4c5dcb62cafa785c45f0f065bb8e701d9cb8008be", func := "selvedge/selvedgelaw15.RefNumbers", spec := "refNumbers", inPlace := ["internal/bytealg.IndexByteString", "internal/bytealg.IndexString"], named := ["unicode/utf8.first", "unicode/utf8.acceptRanges", "internal/bytealg.MaxLen"], apart := false, laid := [("unicode/utf8.acceptRanges", laid_unicode_utf8_acceptRanges), ("unicode/utf8.first", laid_unicode_utf8_first)] }
def RefNumbersSaid : Prop := refNumbersRow.holds Tryd.pinned (OpenSpec.ofChange refNumbersSpec)

/-- ITS FALSE NEIGHBOUR: 'it returns false'. Refute it at one input. -/
def refNumbersWrong : ChangeSpec := { name := "refNumbers", fn := fun _ => fun
  | [] => { results := [.lit (.bool false)], args := [] }
  | _ => none }
def RefNumbersWrongFalsely : Prop := refNumbersRow.holds Tryd.pinned (OpenSpec.ofChange refNumbersWrong)

/-- 'selvedgelaw15.RefTells': WHATEVER THE INPUT: true; the input reads as it did. -/
def refTellsSpec : ChangeSpec := { name := "refTells", fn := fun _ => fun
  | [d1, d2, d3, d4] => { results := [.lit (.bool true)], args := [d1, d2, d3, d4] }
  | _ => none }
def refTellsRow : OpenClaim := { program := "ytaelmnkddedddaadoor", sum := "65cd7d1c639557e47fbe75f4c5dcb62cafa785c45f0f065bb8e701d9cb8008be", func := "selvedge/selvedgelaw15.RefTells", spec := "refTells", inPlace := ["internal/bytealg.IndexByteString", "internal/bytealg.IndexString"], named := ["unicode/utf8.first", "unicode/utf8.acceptRanges", "internal/bytealg.MaxLen"], apart := false, laid := [("unicode/utf8.acceptRanges", laid_unicode_utf8_acceptRanges), ("unicode/utf8.first", laid_unicode_utf8_first)] }
def RefTellsSaid : Prop := refTellsRow.holds Tryd.pinned (OpenSpec.ofChange refTellsSpec)

/-- ITS FALSE NEIGHBOUR: 'it returns false'. Refute it at one input. -/
def refTellsWrong : ChangeSpec := { name := "refTells", fn := fun _ => fun
  | [d1, d2, d3, d4] => { results := [.lit (.bool false)], args := [d1, d2, d3, d4] }
  | _ => none }
def RefTellsWrongFalsely : Prop := refTellsRow.holds Tryd.pinned (OpenSpec.ofChange refTellsWrong)

/-- 'selvedgelaw15.RefBack': WHATEVER THE INPUT: true; the input reads as it did. -/
def refBackSpec : ChangeSpec := { name := "refBack", fn := fun _ => fun
  | [d1, d2] => { results := [.lit (.bool true)], args := [d1, d2] }
  | _ => none }
def refBackRow : OpenClaim := { program := "ytaelmnkddedddaadoor", sum := "65cd7d1c639557e47fbe75f4c5dcb62cafa785c45f0f065bb8e701d9cb8008be", func := "selvedge/selvedgelaw15.RefBack", spec := "refBack", inPlace := ["internal/bytealg.IndexByteString", "internal/bytealg.IndexString"], named := ["unicode/utf8.first", "unicode/utf8.acceptRanges", "internal/bytealg.MaxLen"], apart := false, laid := [("unicode/utf8.acceptRanges", laid_unicode_utf8_acceptRanges), ("unicode/utf8.first", laid_unicode_utf8_first)] }
def RefBackSaid : Prop := refBackRow.holds Tryd.pinned (OpenSpec.ofChange refBackSpec)

/-- ITS FALSE NEIGHBOUR: 'it returns false'. Refute it at one input. -/
def refBackWrong : ChangeSpec := { name := "refBack", fn := fun _ => fun
  | [d1, d2] => { results := [.lit (.bool false)], args := [d1, d2] }
  | _ => none }
def RefBackWrongFalsely : Prop := refBackRow.holds Tryd.pinned (OpenSpec.ofChange refBackWrong)

/-- 'selvedgelaw15.RefNames': WHATEVER THE INPUT: true; the input reads as it did. -/
def refNamesSpec : ChangeSpec := { name := "refNames", fn := fun _ => fun
  | [d1, d2] => { results := [.lit (.bool true)], args := [d1, d2] }
  | _ => none }
def refNamesRow : OpenClaim := { program := "ytaelmnkddedddaadoor", sum := "65cd7d1c639557e47fbe75f4c5dcb62cafa785c45f0f065bb8e701d9cb8008be", func := "selvedge/selvedgelaw15.RefNames", spec := "refNames", inPlace := ["internal/bytealg.IndexByteString", "internal/bytealg.IndexString"], named := ["unicode/utf8.first", "unicode/utf8.acceptRanges", "internal/bytealg.MaxLen"], apart := false, laid := [("unicode/utf8.acceptRanges", laid_unicode_utf8_acceptRanges), ("unicode/utf8.first", laid_unicode_utf8_first)] }
def RefNamesSaid : Prop := refNamesRow.holds Tryd.pinned (OpenSpec.ofChange refNamesSpec)

/-- ITS FALSE NEIGHBOUR: 'it returns false'. Refute it at one input. -/
def refNamesWrong : ChangeSpec := { name := "refNames", fn := fun _ => fun
  | [d1, d2] => { results := [.lit (.bool false)], args := [d1, d2] }
  | _ => none }
def RefNamesWrongFalsely : Prop := refNamesRow.holds Tryd.pinned (OpenSpec.ofChange refNamesWrong)

/- THE SECOND FORM. 'bulk': how many values and letters a reading holds, each counted each time it is reached (what is shared counts as often as it is met; a slice's spare places count too). A statement '..UptoSaid' is the law's where the arguments, and the package variables that the reading takes, are together of bulk at most 1048576: NARROWER than '..Said'. Prove '..Said' where nothing that the law and all that it calls make is longer than what came in: it says more and counts as full. Else prove '..UptoSaid'. A law counts once. -/
mutual
def uptoBulk {H : Type} : DataW H → Nat
  | .lit (.string bytes) => bytes.length + 1
  | .lit _ => 1
  | .nil => 1
  | .ptr d => uptoBulk d + 1
  | .slice elems spare => uptoBulkAll elems + uptoBulkAll spare + 1
  | .agg parts => uptoBulkAll parts + 1
  | .iface _ d => uptoBulk d + 1
  | .map entries => uptoBulkEntries entries + 1
  | .held _ => 1
def uptoBulkAll {H : Type} : List (DataW H) → Nat
  | [] => 0
  | d :: r => uptoBulk d + uptoBulkAll r
def uptoBulkEntries {H : Type} : List (Lit × DataW H) → Nat
  | [] => 0
  | x :: r => uptoBulkEntry x + uptoBulkEntries r
def uptoBulkEntry {H : Type} : Lit × DataW H → Nat
  | (.string bytes, d) => bytes.length + uptoBulk d + 1
  | (_, d) => uptoBulk d + 1
 end
def uptoSmall : (H : Type) → List (DataW H) → Bool := fun _ ds => decide (uptoBulkAll ds ≤ 1048576)
def OpenSpec.upto (s : _root_.Go.ChangeSpec) : _root_.Go.OpenSpec := { _root_.Go.OpenSpec.ofChange s with cond := some uptoSmall }

/-- 'selvedgelaw15.RefNumbers', WHERE WHAT IT READS IS OF BULK AT MOST 1048576: true; the input reads as it did. -/
def refNumbersUptoRow : OpenClaim := { program := "ytaelmnkddedddaadoor", sum := "65cd7d1c639557e47fbe75f4c5dcb62cafa785c45f0f065bb8e701d9cb8008be", func := "selvedge/selvedgelaw15.RefNumbers", spec := "refNumbers", inPlace := ["internal/bytealg.IndexByteString", "internal/bytealg.IndexString"], named := ["unicode/utf8.first", "unicode/utf8.acceptRanges", "internal/bytealg.MaxLen"], apart := false, laid := [("unicode/utf8.acceptRanges", laid_unicode_utf8_acceptRanges), ("unicode/utf8.first", laid_unicode_utf8_first)], narrowed := true }
def RefNumbersUptoSaid : Prop := refNumbersUptoRow.holds Tryd.pinned (OpenSpec.upto refNumbersSpec)

/-- 'selvedgelaw15.RefTells', WHERE WHAT IT READS IS OF BULK AT MOST 1048576: true; the input reads as it did. -/
def refTellsUptoRow : OpenClaim := { program := "ytaelmnkddedddaadoor", sum := "65cd7d1c639557e47fbe75f4c5dcb62cafa785c45f0f065bb8e701d9cb8008be", func := "selvedge/selvedgelaw15.RefTells", spec := "refTells", inPlace := ["internal/bytealg.IndexByteString", "internal/bytealg.IndexString"], named := ["unicode/utf8.first", "unicode/utf8.acceptRanges", "internal/bytealg.MaxLen"], apart := false, laid := [("unicode/utf8.acceptRanges", laid_unicode_utf8_acceptRanges), ("unicode/utf8.first", laid_unicode_utf8_first)], narrowed := true }
def RefTellsUptoSaid : Prop := refTellsUptoRow.holds Tryd.pinned (OpenSpec.upto refTellsSpec)

/-- 'selvedgelaw15.RefBack', WHERE WHAT IT READS IS OF BULK AT MOST 1048576: true; the input reads as it did. -/
def refBackUptoRow : OpenClaim := { program := "ytaelmnkddedddaadoor", sum := "65cd7d1c639557e47fbe75f4c5dcb62cafa785c45f0f065bb8e701d9cb8008be", func := "selvedge/selvedgelaw15.RefBack", spec := "refBack", inPlace := ["internal/bytealg.IndexByteString", "internal/bytealg.IndexString"], named := ["unicode/utf8.first", "unicode/utf8.acceptRanges", "internal/bytealg.MaxLen"], apart := false, laid := [("unicode/utf8.acceptRanges", laid_unicode_utf8_acceptRanges), ("unicode/utf8.first", laid_unicode_utf8_first)], narrowed := true }
def RefBackUptoSaid : Prop := refBackUptoRow.holds Tryd.pinned (OpenSpec.upto refBackSpec)

/-- 'selvedgelaw15.RefNames', WHERE WHAT IT READS IS OF BULK AT MOST 1048576: true; the input reads as it did. -/
def refNamesUptoRow : OpenClaim := { program := "ytaelmnkddedddaadoor", sum := "65cd7d1c639557e47fbe75f4c5dcb62cafa785c45f0f065bb8e701d9cb8008be", func := "selvedge/selvedgelaw15.RefNames", spec := "refNames", inPlace := ["internal/bytealg.IndexByteString", "internal/bytealg.IndexString"], named := ["unicode/utf8.first", "unicode/utf8.acceptRanges", "internal/bytealg.MaxLen"], apart := false, laid := [("unicode/utf8.acceptRanges", laid_unicode_utf8_acceptRanges), ("unicode/utf8.first", laid_unicode_utf8_first)], narrowed := true }
def RefNamesUptoSaid : Prop := refNamesUptoRow.holds Tryd.pinned (OpenSpec.upto refNamesSpec)

end Rows
end Go.Proofs.YtaelmnkddedddaaDoor
